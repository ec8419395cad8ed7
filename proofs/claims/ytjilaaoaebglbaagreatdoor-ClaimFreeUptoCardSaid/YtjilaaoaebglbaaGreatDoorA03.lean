/- Parts of the proof. -/
import Derived.Test.YtjilaaoaebglbaaGreatDoorA00
import Derived.Test.YtjilaaoaebglbaaGreatDoorA02
set_option linter.unusedVariables false
set_option linter.unusedSimpArgs false
set_option linter.unnecessarySimpa false
set_option linter.unusedSectionVars false
section
namespace Go.Am
open Go
def Evt (p : Nat → Prop) : Prop := ∃ n, ∀ k, n ≤ k → p k
theorem Evt.of {p : Nat → Prop} (h : ∀ k, p k) : Evt p := ⟨0, fun k _ => h k⟩
theorem Evt.mono {p q : Nat → Prop} (h : Evt p) (hq : ∀ k, p k → q k) : Evt q := let ⟨n, hn⟩ := h; ⟨n, fun k hk => hq k (hn k hk)⟩
theorem Evt.and {p q : Nat → Prop} (h : Evt p) (h2 : Evt q) : Evt fun k => p k ∧ q k :=
  let ⟨n, hn⟩ := h; let ⟨m, hm⟩ := h2; ⟨max n m, fun k hk => ⟨hn k (by omega), hm k (by omega)⟩⟩
theorem Evt.pred {p : Nat → Prop} (h : Evt p) : Evt fun k => ∃ j, k = j + 1 ∧ p j :=
  let ⟨n, hn⟩ := h; ⟨n + 1, fun k hk => ⟨k - 1, by omega, hn _ (by omega)⟩⟩
def wpC (E : Env) (c : ACode) (s : St) (Q : Ex → St → Prop) : Prop := ∃ x s', Q x s' ∧ ∃ n, ∀ k j, n ≤ k → n ≤ j → evalCode E (evalFn E j) none k c s = some (x, s')
def wpO (E : Env) (pan : Option (Option AV)) (o : AOp) (s : St) (Q : Ex → St → Prop) : Prop := ∃ x s', Q x s' ∧ Evt fun k => evalOp E (evalFn E k) pan o s = some (x, s')
def wpS (E : Env) (pan : Option (Option AV)) (l : List AOp) (s : St) (Q : Ex → St → Prop) : Prop := ∃ x s', Q x s' ∧ Evt fun k => evalOps E (evalFn E k) pan l s = some (x, s')
def wpF (E : Env) (f : FuncId) (a : List AV) (H : Heap) (nx : Nat) (fz : List Nat) (Q : Back → Prop) : Prop := ∃ b, Q b ∧ Evt fun k => evalFn E k f a H nx fz none = some b
def wpL (E : Env) (rs : List ARes) (tmps : List AV) (ds : List (FuncId × List AV)) (m : Option AV) (H : Heap) (nx : Nat) (fz : List Nat) (Q : Back → Prop) : Prop :=
  ∃ b, Q b ∧ Evt fun k => leaveA (evalFn E k) rs tmps ds m H nx fz = some b
def wpA (E : Env) (f : FuncId) (a : List AV) (H : Heap) (nx : Nat) (fz : List Nat) (Q : Back → Prop) : Prop := ∃ b, Q b ∧ Evt fun k => callA E (evalFn E k) f a H nx fz = some b
section
variable {E : Env} {pan : Option (Option AV)} {s s' : St} {Q Q' : Ex → St → Prop} {c c1 c2 : ACode} {o : AOp} {l : List AOp} {f : FuncId} {a : List AV} {H : Heap} {nx : Nat} {fz : List Nat} {R R' : Back → Prop}
theorem wpC.mono (h : wpC E c s Q) (hq : ∀ x s', Q x s' → Q' x s') : wpC E c s Q' := let ⟨x, s', h1, h2⟩ := h; ⟨x, s', hq _ _ h1, h2⟩
theorem wpS.mono (h : wpS E pan l s Q) (hq : ∀ x s', Q x s' → Q' x s') : wpS E pan l s Q' := let ⟨x, s', h1, h2⟩ := h; ⟨x, s', hq _ _ h1, h2⟩
theorem wpF.mono (h : wpF E f a H nx fz R) (hq : ∀ b, R b → R' b) : wpF E f a H nx fz R' := let ⟨b, h1, h2⟩ := h; ⟨b, hq _ h1, h2⟩
theorem wpA.mono (h : wpA E f a H nx fz R) (hq : ∀ b, R b → R' b) : wpA E f a H nx fz R' := let ⟨b, h1, h2⟩ := h; ⟨b, hq _ h1, h2⟩
theorem wpC_skip (h : Q .normal s) : wpC E .skip s Q := ⟨_, _, h, 1, fun k j hk hj => by
  obtain ⟨k, rfl⟩ : ∃ m, k = m + 1 := ⟨k - 1, by omega⟩
  rfl⟩
theorem wpC_ret (h : Q .ret s) : wpC E .ret s Q := ⟨_, _, h, 1, fun k j hk hj => by
  obtain ⟨k, rfl⟩ : ∃ m, k = m + 1 := ⟨k - 1, by omega⟩
  rfl⟩
theorem wpC_exit {id : Nat} (h : Q (.exit id) s) : wpC E (.exit id) s Q := ⟨_, _, h, 1, fun k j hk hj => by
  obtain ⟨k, rfl⟩ : ∃ m, k = m + 1 := ⟨k - 1, by omega⟩
  rfl⟩
theorem wpC_region (h : wpS E none l s Q) : wpC E (.region l none) s Q := by
  obtain ⟨x, s', h1, n, h2⟩ := h
  refine ⟨x, s', h1, n + 1, fun k j hk hj => ?_⟩
  obtain ⟨k, rfl⟩ : ∃ m, k = m + 1 := ⟨k - 1, by omega⟩
  simp only [evalCode]
  exact h2 j (by omega)
def thenC (E : Env) (c : ACode) (Q : Ex → St → Prop) : Ex → St → Prop
  | .normal, s => wpC E c s Q
  | x, s => Q x s
theorem wpC_seq (h : wpC E c1 s (thenC E c2 Q)) : wpC E (.seq c1 c2) s Q := by
  obtain ⟨x, s1, h1, n, h2⟩ := h
  cases x with
  | normal =>
    obtain ⟨y, s2, h3, m, h4⟩ := h1
    refine ⟨y, s2, h3, max n m + 1, fun k j hk hj => ?_⟩
    obtain ⟨k, rfl⟩ : ∃ m, k = m + 1 := ⟨k - 1, by omega⟩
    simp only [evalCode, h2 k j (by omega) (by omega), h4 k j (by omega) (by omega)]
  | exit id =>
    refine ⟨_, s1, h1, n + 1, fun k j hk hj => ?_⟩
    obtain ⟨k, rfl⟩ : ∃ m, k = m + 1 := ⟨k - 1, by omega⟩
    simp only [evalCode, h2 k j (by omega) (by omega)]
  | ret =>
    refine ⟨_, s1, h1, n + 1, fun k j hk hj => ?_⟩
    obtain ⟨k, rfl⟩ : ∃ m, k = m + 1 := ⟨k - 1, by omega⟩
    simp only [evalCode, h2 k j (by omega) (by omega)]
  | panic v =>
    refine ⟨_, s1, h1, n + 1, fun k j hk hj => ?_⟩
    obtain ⟨k, rfl⟩ : ∃ m, k = m + 1 := ⟨k - 1, by omega⟩
    simp only [evalCode, h2 k j (by omega) (by omega)]
theorem wpC_cond {y : Opnd} {b : Bool} (hb : s.eval E y = .bool b) (h : wpC E (if b then c1 else c2) s Q) : wpC E (.cond y c1 c2) s Q := by
  obtain ⟨x, s1, h1, n, h2⟩ := h
  refine ⟨x, s1, h1, n + 1, fun k j hk hj => ?_⟩
  obtain ⟨k, rfl⟩ : ∃ m, k = m + 1 := ⟨k - 1, by omega⟩
  simp only [evalCode, hb]
  exact h2 k j (by omega) (by omega)
def outC (id : Nat) (Q : Ex → St → Prop) : Ex → St → Prop
  | .exit i, s => if i = id then Q .normal s else Q (.exit i) s
  | x, s => Q x s
theorem wpC_block {id : Nat} (h : wpC E c s (outC id Q)) : wpC E (.block id c) s Q := by
  obtain ⟨x, s1, h1, n, h2⟩ := h
  have key : ∀ y, (∀ k j, n ≤ k → n ≤ j → evalCode E (evalFn E j) none (k + 1) (.block id c) s = some (y, s1)) → Q y s1 → wpC E (.block id c) s Q := fun y hy hQ => ⟨y, s1, hQ, n + 1, fun k j hk hj => by
    obtain ⟨k, rfl⟩ : ∃ m, k = m + 1 := ⟨k - 1, by omega⟩
    exact hy k j (by omega) (by omega)⟩
  cases x with
  | exit i =>
    simp only [outC] at h1
    by_cases e : i = id
    · rw [if_pos e] at h1
      exact key .normal (fun k j hk hj => by simp only [evalCode, h2 k j hk hj, if_pos e]) h1
    · rw [if_neg e] at h1
      exact key _ (fun k j hk hj => by simp only [evalCode, h2 k j hk hj, if_neg e]) h1
  | normal => exact key _ (fun k j hk hj => by simp only [evalCode, h2 k j hk hj]) h1
  | ret => exact key _ (fun k j hk hj => by simp only [evalCode, h2 k j hk hj]) h1
  | panic v => exact key _ (fun k j hk hj => by simp only [evalCode, h2 k j hk hj]) h1
def nextC (I : Nat → St → Prop) (m : Nat) (Q : Ex → St → Prop) : Ex → St → Prop
  | .normal, s => ∃ m', m' < m ∧ I m' s
  | x, s => Q x s
theorem wpC_loop (I : Nat → St → Prop) (step : ∀ m s, I m s → wpC E c s (nextC I m Q)) : ∀ m s, I m s → wpC E (.loop c) s Q := by
  intro m
  induction m using Nat.strongRecOn with
  | _ m ih =>
    intro s hI
    obtain ⟨x, s1, h1, n, h2⟩ := step m s hI
    cases x with
    | normal =>
      obtain ⟨m', hm, hI'⟩ := h1
      obtain ⟨y, s2, h3, n2, h4⟩ := ih m' hm s1 hI'
      refine ⟨y, s2, h3, max n n2 + 1, fun k j hk hj => ?_⟩
      obtain ⟨k, rfl⟩ : ∃ m, k = m + 1 := ⟨k - 1, by omega⟩
      simp only [evalCode, h2 k j (by omega) (by omega), h4 k j (by omega) (by omega)]
    | exit id =>
      refine ⟨_, s1, h1, n + 1, fun k j hk hj => ?_⟩
      obtain ⟨k, rfl⟩ : ∃ m, k = m + 1 := ⟨k - 1, by omega⟩
      simp only [evalCode, h2 k j (by omega) (by omega)]
    | ret =>
      refine ⟨_, s1, h1, n + 1, fun k j hk hj => ?_⟩
      obtain ⟨k, rfl⟩ : ∃ m, k = m + 1 := ⟨k - 1, by omega⟩
      simp only [evalCode, h2 k j (by omega) (by omega)]
    | panic v =>
      refine ⟨_, s1, h1, n + 1, fun k j hk hj => ?_⟩
      obtain ⟨k, rfl⟩ : ∃ m, k = m + 1 := ⟨k - 1, by omega⟩
      simp only [evalCode, h2 k j (by omega) (by omega)]
theorem wpS_nil (h : Q .normal s) : wpS E pan [] s Q := ⟨_, _, h, .of fun k => rfl⟩
theorem wpS_cons (h : wpO E pan o s fun x s' => match x with | .normal => wpS E pan l s' Q | x => Q x s') : wpS E pan (o :: l) s Q := by
  obtain ⟨x, s1, h1, h2⟩ := h
  cases x with
  | normal =>
    obtain ⟨y, s2, h3, h4⟩ := h1
    refine ⟨y, s2, h3, (h2.and h4).mono fun k ⟨h5, h6⟩ => ?_⟩
    simp only [evalOps, h5, h6]
  | exit id => exact ⟨_, s1, h1, h2.mono fun k h5 => by simp only [evalOps, h5]⟩
  | ret => exact ⟨_, s1, h1, h2.mono fun k h5 => by simp only [evalOps, h5]⟩
  | panic v => exact ⟨_, s1, h1, h2.mono fun k h5 => by simp only [evalOps, h5]⟩
def plainI : Insn → Bool
  | .callf .. | .callv .. | .panic _ | .defer .. | .recover => false
  | _ => true
theorem evalOp_plain {call : CallT} {d : Option Nat} {i : Insn} {v : AV} {H' : Heap} {nx' : Nat} (hp : plainI i = true) (he : evalI (s.eval E) s.fz s.nx s.H i = some (v, H', nx')) :
    evalOp E call pan ⟨d, none, i⟩ s = some (.normal, { s with H := H', nx := nx' }.put d v) := by
  cases i <;> first
    | (cases hp; done)
    | (simp only [evalOp, wantedA, he])
theorem wpS_plain {d : Option Nat} {i : Insn} {v : AV} {H' : Heap} {nx' : Nat} (hp : plainI i = true) (he : evalI (s.eval E) s.fz s.nx s.H i = some (v, H', nx')) (h : wpS E pan l ({ s with H := H', nx := nx' }.put d v) Q) :
    wpS E pan (⟨d, none, i⟩ :: l) s Q := wpS_cons ⟨.normal, _, h, .of fun k => evalOp_plain hp he⟩
theorem wpS_guard {d : Option Nat} {i : Insn} {t : Nat} {b c : Bool} (hc : getT s.tmps t = .bool c) (h : if c = b then wpS E pan (⟨d, none, i⟩ :: l) s Q else wpS E pan l (s.put d undefA) Q) : wpS E pan (⟨d, some (t, b), i⟩ :: l) s Q := by
  have hw : wantedA s (some (t, b)) = some (c == b) := by simp only [wantedA, hc]
  by_cases e : c = b
  · rw [if_pos e] at h
    obtain ⟨x, s1, h1, h2⟩ := h
    refine ⟨x, s1, h1, h2.mono fun k h3 => ?_⟩
    have : evalOp E (evalFn E k) pan ⟨d, some (t, b), i⟩ s = evalOp E (evalFn E k) pan ⟨d, none, i⟩ s := by
      simp only [evalOp, hw, beq_iff_eq.2 e]
      simp only [wantedA]
    simp only [evalOps, this] at h3 ⊢
    exact h3
  · rw [if_neg e] at h
    refine wpS_cons ⟨.normal, _, h, .of fun k => ?_⟩
    simp only [evalOp, hw, beq_false_of_ne e]
def backC (s : St) (d : Option Nat) (K : St → Prop) (Q : Ex → St → Prop) (b : Back) : Prop :=
  match b.res with
  | .ret v => K ({ s with H := b.H, nx := b.nx, fz := b.fz }.put d v)
  | .panic v => Q (.panic v) { s with H := b.H, nx := b.nx, fz := b.fz }
theorem wpS_callf {d : Option Nat} {args : List Opnd} (h : wpA E f (args.map (s.eval E)) s.H s.nx s.fz (backC s d (fun s' => wpS E pan l s' Q) Q)) : wpS E pan (⟨d, none, .callf f args⟩ :: l) s Q := by
  obtain ⟨b, h1, h2⟩ := h
  unfold backC at h1
  cases hr : b.res with
  | ret v =>
    rw [hr] at h1
    refine wpS_cons ⟨.normal, _, h1, h2.mono fun k h3 => ?_⟩
    simp only [evalOp, wantedA, h3, hr]
  | panic v =>
    rw [hr] at h1
    refine wpS_cons ⟨.panic v, _, h1, h2.mono fun k h3 => ?_⟩
    simp only [evalOp, wantedA, h3, hr]
theorem wpS_callv {d : Option Nat} {y : Opnd} {args : List Opnd} {first caps : List AV} (hy : s.eval E y = .func f first caps) (h : wpA E f (first ++ args.map (s.eval E) ++ caps) s.H s.nx s.fz (backC s d (fun s' => wpS E pan l s' Q) Q)) :
    wpS E pan (⟨d, none, .callv y args⟩ :: l) s Q := by
  obtain ⟨b, h1, h2⟩ := h
  unfold backC at h1
  cases hr : b.res with
  | ret v =>
    rw [hr] at h1
    refine wpS_cons ⟨.normal, _, h1, h2.mono fun k h3 => ?_⟩
    simp only [evalOp, wantedA, hy, h3, hr]
  | panic v =>
    rw [hr] at h1
    refine wpS_cons ⟨.panic v, _, h1, h2.mono fun k h3 => ?_⟩
    simp only [evalOp, wantedA, hy, h3, hr]
theorem wpS_panic {d : Option Nat} {y : Opnd} {t : TypeId} {v : AV} (hy : s.eval E y = .iface t v) (h : Q (.panic (.iface t v)) s) : wpS E pan (⟨d, none, .panic y⟩ :: l) s Q :=
  wpS_cons ⟨.panic _, s, h, .of fun k => by simp only [evalOp, wantedA, hy]⟩
theorem wpS_defer {d : Option Nat} {y : Opnd} {args : List Opnd} {first caps : List AV} (hy : s.eval E y = .func f first caps) (h : wpS E pan l ({ s with defers := (f, first ++ args.map (s.eval E) ++ caps) :: s.defers }.put d undefA) Q) : wpS E pan (⟨d, none, .defer y args⟩ :: l) s Q :=
  wpS_cons ⟨.normal, _, h, .of fun k => by simp only [evalOp, wantedA, hy]⟩
def Ex.out : Ex → Option (Option AV)
  | .normal | .ret => some none
  | .panic v => some (some v)
  | .exit _ => none
def leaveC (E : Env) (rs : List ARes) (R : Back → Prop) (x : Ex) (s : St) : Prop :=
  match x.out with
  | some m => wpL E rs s.tmps s.defers m s.H s.nx s.fz R
  | none => False
theorem wpF_enter {fn : AFn} (hf : E.code f = some fn) (h : wpC E fn.body ⟨enterA fn a, H, nx, fz, [], false⟩ (leaveC E fn.res R)) : wpF E f a H nx fz R := by
  obtain ⟨x, s1, h1, n, h2⟩ := h
  have key : ∀ m, x.out = some m → wpL E fn.res s1.tmps s1.defers m s1.H s1.nx s1.fz R → wpF E f a H nx fz R := by
    rintro m hm ⟨b, h3, n2, h4⟩
    refine ⟨b, h3, max n n2 + 1, fun k hk => ?_⟩
    obtain ⟨k, rfl⟩ : ∃ m, k = m + 1 := ⟨k - 1, by omega⟩
    have h5 := h2 k k (by omega) (by omega)
    have h6 := h4 k (by omega)
    cases x with
    | normal => simp only [Ex.out, Option.some.injEq] at hm; subst hm; simp only [evalFn, hf, h5, h6]
    | ret => simp only [Ex.out, Option.some.injEq] at hm; subst hm; simp only [evalFn, hf, h5, h6]
    | panic v => simp only [Ex.out, Option.some.injEq] at hm; subst hm; simp only [evalFn, hf, h5, h6]
    | exit id => cases hm
  unfold leaveC at h1
  cases hx : x.out with
  | none => rw [hx] at h1; exact h1.elim
  | some m => rw [hx] at h1; exact key m hx h1
theorem wpL_nil {rs : List ARes} {tmps : List AV} {v : AV} (hv : resultsA rs tmps H = some v) (h : R ⟨.ret v, H, nx, fz, false⟩) : wpL E rs tmps [] none H nx fz R := ⟨_, h, .of fun k => by simp only [leaveA, hv, Option.map_some]⟩
theorem wpL_panic {rs : List ARes} {tmps : List AV} {v : AV} (h : R ⟨.panic v, H, nx, fz, false⟩) : wpL E rs tmps [] (some v) H nx fz R := ⟨_, h, .of fun k => rfl⟩
def callV (E : Env) (call : CallT) (f : FuncId) (a : List AV) : Option Res :=
  match E.prim f with
  | some g => (g a).map .ret
  | none => match call f a [] 0 [] none with
    | some b => match b.res with
      | .ret v => (frz b.H (depthOf b.nx) v).map .ret
      | .panic v => (frz b.H (depthOf b.nx) v).map .panic
    | none => none
def Does (E : Env) (f : FuncId) (a : List AV) (r : Res) : Prop := byValue E f = true ∧ (E.prim f = none → (E.code f).isSome) ∧ Evt fun k => callV E (evalFn E k) f a = some r
def Val (E : Env) (f : FuncId) (a : List AV) (v : AV) : Prop := Does E f a (.ret v)
def fzOf (T : List Nat) (fz : List Nat) (v : AV) : List Nat := if hasRef v then T.filter (fun b => !fz.contains b) ++ fz else fz
theorem callA_does {call : CallT} {args : List AV} {r : Res} (hb : byValue E f = true) (hc : E.prim f = none → (E.code f).isSome) (hfr : args.mapM (frz H (depthOf nx)) = some a) (h : callV E call f a = some r) :
    callA E call f args H nx fz = some ⟨r, H, nx, fzOf (args.flatMap (tch H (depthOf nx))) fz (match r with | .ret v => v | .panic v => v), false⟩ := by
  unfold byValue at hb
  unfold callV at h
  cases h1 : E.hprim f with
  | some g => simp [h1] at hb
  | none =>
    cases h2 : E.prim f with
    | some g =>
      rw [h2] at h
      simp only at h
      obtain ⟨v, hv, rfl⟩ := Option.map_eq_some_iff.1 h
      simp only [callA, h1, h2, hfr, hv, pback, fzOf]
    | none =>
      rw [h2] at h
      simp only at h
      cases h3 : E.code f with
      | none => rw [h3] at hc; exact absurd (hc h2) (by simp)
      | some fn =>
        have hh : fn.heap = false := by simpa [h1, h2, h3] using hb
        split at h
        · rename_i b hcb
          split at h
          · rename_i v hv
            obtain ⟨y, hy, rfl⟩ := Option.map_eq_some_iff.1 h
            simp only [callA, h1, h2, h3, hh, Bool.false_eq_true, if_false, hfr, hcb, hv, hy, pback, fzOf]
          · rename_i v hv
            obtain ⟨y, hy, rfl⟩ := Option.map_eq_some_iff.1 h
            simp only [callA, h1, h2, h3, hh, Bool.false_eq_true, if_false, hfr, hcb, hv, hy, pback, fzOf]
        · cases h
theorem wpA_val {args : List AV} {v : AV} (hv : Val E f a v) (hfr : args.mapM (frz H (depthOf nx)) = some a) (h : R ⟨.ret v, H, nx, fzOf (args.flatMap (tch H (depthOf nx))) fz v, false⟩) : wpA E f args H nx fz R :=
  ⟨_, h, hv.2.2.mono fun k hk => callA_does hv.1 hv.2.1 hfr hk⟩
theorem val_of {v : AV} {fn : AFn} (h0 : E.hprim f = none) (h1 : E.prim f = none) (h2 : E.code f = some fn) (h3 : fn.heap = false) (h : wpF E f a [] 0 [] fun b => ∃ u, b.res = .ret u ∧ frz b.H (depthOf b.nx) u = some v) : Val E f a v := by
  obtain ⟨b, ⟨u, hu, hfz⟩, h4⟩ := h
  refine ⟨by simp [byValue, h0, h1, h2, h3], fun _ => by rw [h2]; rfl, h4.mono fun k hk => ?_⟩
  simp only [callV, h1, hk, hu, hfz, Option.map_some]
theorem pan_of {v : AV} {fn : AFn} (h0 : E.hprim f = none) (h1 : E.prim f = none) (h2 : E.code f = some fn) (h3 : fn.heap = false) (h : wpF E f a [] 0 [] fun b => ∃ u, b.res = .panic u ∧ frz b.H (depthOf b.nx) u = some v) : Does E f a (.panic v) := by
  obtain ⟨b, ⟨u, hu, hfz⟩, h4⟩ := h
  refine ⟨by simp [byValue, h0, h1, h2, h3], fun _ => by rw [h2]; rfl, h4.mono fun k hk => ?_⟩
  simp only [callV, h1, hk, hu, hfz, Option.map_some]
end
end Go.Am
end
section
namespace Go.Am
open Go
section
variable {E : Env} {pan : Option (Option AV)} {s s' : St} {Q Q' : Ex → St → Prop} {c c1 c2 : ACode} {o : AOp} {l : List AOp} {f : FuncId} {a : List AV} {H : Heap} {nx : Nat} {fz : List Nat} {R R' : Back → Prop} {d : Draw}
def wpT (E : Env) (d : Draw) (i : Nat) (l : List AOp) (s : St) (p : Option (Nat × AV × St)) (acc : List Rec) (K : Option (Nat × AV × St) → St → List Rec → Prop) : Prop :=
  ∃ p' s' rs, K p' s' rs ∧ Evt fun k => evalSteps E (evalFn E k) none d i l s p acc = some (p', s', rs)
theorem wpT_nil {i : Nat} {p : Option (Nat × AV × St)} {acc : List Rec} {K : Option (Nat × AV × St) → St → List Rec → Prop} (h : K p s acc.reverse) : wpT E d i [] s p acc K := ⟨_, _, _, h, .of fun k => rfl⟩
theorem wpT_cons {i : Nat} {acc : List Rec} {K : Option (Nat × AV × St) → St → List Rec → Prop}
    (h : wpO E none o s fun x s' => newOk s s' = true ∧ match x with
      | .normal => wpT E d (i + 1) l s' none (recOf E o s s' :: acc) K
      | .panic v => wpT E d (i + 1) l s' (some (i, v, s')) (recOf E o s s' :: acc) K
      | _ => False) : wpT E d i (o :: l) s none acc K := by
  obtain ⟨x, s1, ⟨h0, h1⟩, h2⟩ := h
  cases x with
  | normal =>
    obtain ⟨p', s2, rs, h3, h4⟩ := h1
    refine ⟨p', s2, rs, h3, (h2.and h4).mono fun k ⟨h5, h6⟩ => ?_⟩
    simp only [evalSteps, h5, h0, if_true, h6]
  | panic v =>
    obtain ⟨p', s2, rs, h3, h4⟩ := h1
    refine ⟨p', s2, rs, h3, (h2.and h4).mono fun k ⟨h5, h6⟩ => ?_⟩
    simp only [evalSteps, h5, h0, if_true, h6]
  | exit id => exact h1.elim
  | ret => exact h1.elim
theorem wpT_free {i k : Nat} {v : AV} {t : St} {acc : List Rec} {K : Option (Nat × AV × St) → St → List Rec → Prop} (hf : (d.free.getD k []).contains i = true)
    (h : wpO E none o s fun x s' => x = .normal ∧ newOk s s' = true ∧ wpT E d (i + 1) l s' (some (k, v, t)) (recOf E o s s' :: acc) K) : wpT E d i (o :: l) s (some (k, v, t)) acc K := by
  obtain ⟨x, s1, ⟨rfl, h0, p', s2, rs, h3, h4⟩, h2⟩ := h
  refine ⟨p', s2, rs, h3, (h2.and h4).mono fun k ⟨h5, h6⟩ => ?_⟩
  simp only [evalSteps, hf, h5, h0, if_true, h6]
theorem wpT_off {i k : Nat} {v : AV} {t : St} {acc : List Rec} {K : Option (Nat × AV × St) → St → List Rec → Prop} (hf : (d.free.getD k []).contains i = false)
    (h : wpT E d (i + 1) l s (some (k, v, t)) (⟨false, [], []⟩ :: acc) K) : wpT E d i (o :: l) s (some (k, v, t)) acc K := by
  obtain ⟨p', s2, rs, h3, h4⟩ := h
  refine ⟨p', s2, rs, h3, h4.mono fun k h6 => ?_⟩
  simp only [evalSteps, hf, Bool.false_eq_true, if_false, h6]
def drawC (l : List AOp) (d : Draw) (Q : Ex → St → Prop) (p : Option (Nat × AV × St)) (s' : St) (rs : List Rec) : Prop :=
  (d.pairs.all fun (i, j) => apartR (rs.getD i default) (rs.getD j default)) = true ∧ match p with
    | none => Q .normal s'
    | some (k, v, t) => Q (.panic v) { t with tmps := killT l t.tmps, H := killB ((d.free.getD k []).flatMap fun j => (rs.getD j default).wr) t.H, fz := t.fz.filter (fun b => !((d.free.getD k []).flatMap fun j => (rs.getD j default).wr).contains b), nx := s'.nx }
theorem wpC_draw (h : wpT E d 0 l s none [] (drawC l d Q)) : wpC E (.region l (some d)) s Q := by
  obtain ⟨p, s1, rs, ⟨h0, h1⟩, n, h2⟩ := h
  cases p with
  | none =>
    refine ⟨.normal, s1, h1, n + 1, fun k j hk hj => ?_⟩
    obtain ⟨k, rfl⟩ : ∃ m, k = m + 1 := ⟨k - 1, by omega⟩
    simp only [evalCode, evalDraw, h2 j (by omega), h0, if_true]
  | some q =>
    obtain ⟨i, v, t⟩ := q
    refine ⟨_, _, h1, n + 1, fun k j hk hj => ?_⟩
    obtain ⟨k, rfl⟩ : ∃ m, k = m + 1 := ⟨k - 1, by omega⟩
    simp only [evalCode, evalDraw, h2 j (by omega), h0, if_true]
def wpQ (E : Env) (l : List AOp) (s : St) (Q : St → Prop) : Prop :=
  ∃ s', Q s' ∧ ∀ d i acc, ∃ rs, (∀ r ∈ rs, r.wr = [] ∧ r.foot = []) ∧ Evt fun k => evalSteps E (evalFn E k) none d i l s none acc = some (none, s', acc.reverse ++ rs)
theorem wpQ_nil {Q : St → Prop} (h : Q s) : wpQ E [] s Q := ⟨s, h, fun d i acc => ⟨[], by simp, .of fun k => by simp [evalSteps]⟩⟩
theorem span_zero (a : Nat) : span a 0 = [] := rfl
theorem wpQ_cons {Q : St → Prop} (h : wpO E none o s fun x s' => x = .normal ∧ footOf E s o.ins = [] ∧ s'.nx = s.nx ∧ wpQ E l s' Q) : wpQ E (o :: l) s Q := by
  obtain ⟨x, s1, ⟨rfl, h1, h2, s2, h3, h4⟩, h5⟩ := h
  have hw : writesOf E o.ins (footOf E s o.ins) s s1 = [] := by
    unfold writesOf
    rw [h1, h2, Nat.sub_self, span_zero, List.append_nil]
    split <;> first
      | rfl
      | (split <;> rfl)
      | (split
         · split <;> rfl
         · rfl)
  have hn : newOk s s1 = true := by
    unfold newOk
    rw [h2, Nat.sub_self, span_zero]; rfl
  refine ⟨s2, h3, fun d i acc => ?_⟩
  obtain ⟨rs, h6, h7⟩ := h4 d (i + 1) (recOf E o s s1 :: acc)
  refine ⟨recOf E o s s1 :: rs, fun r hr => ?_, (h5.and h7).mono fun k ⟨h8, h9⟩ => ?_⟩
  · rcases List.mem_cons.1 hr with rfl | hr
    · exact ⟨hw, h1⟩
    · exact h6 r hr
  · simp only [evalSteps, h8, hn, if_true, h9]
    simp
theorem wpC_drawQ {Q : Ex → St → Prop} (h : wpQ E l s (Q .normal)) : wpC E (.region l (some d)) s Q := by
  obtain ⟨s1, h1, h2⟩ := h
  obtain ⟨rs, h3, h4⟩ := h2 d 0 []
  refine wpC_draw ⟨none, s1, rs, ⟨?_, h1⟩, by simpa using h4⟩
  refine List.all_eq_true.2 fun ⟨i, j⟩ _ => ?_
  have e : ∀ i, (rs.getD i default).wr = [] ∧ (rs.getD i default).foot = [] := fun i => by
    rw [List.getD_eq_getElem?_getD]
    cases hi : rs[i]? with
    | none => exact ⟨rfl, rfl⟩
    | some r => exact h3 r (List.mem_of_getElem? hi)
  simp only [apartR, (e i).1, (e i).2, (e j).1, disjointB, List.all_nil, Bool.and_self]
theorem wpQ_plain {dd : Option Nat} {i : Insn} {v : AV} {Q : St → Prop} (hp : plainI i = true) (he : evalI (s.eval E) s.fz s.nx s.H i = some (v, s.H, s.nx)) (hf : footOf E s i = []) (h : wpQ E l (s.put dd v) Q) : wpQ E (⟨dd, none, i⟩ :: l) s Q := by
  refine wpQ_cons ⟨.normal, s.put dd v, ⟨rfl, hf, by cases dd <;> rfl, h⟩, .of fun k => ?_⟩
  rw [evalOp_plain hp he]
theorem wpQ_guard {dd : Option Nat} {i : Insn} {t : Nat} {b c : Bool} {Q : St → Prop} (hc : getT s.tmps t = .bool c) (hf : footOf E s i = []) (h : if c = b then wpQ E (⟨dd, none, i⟩ :: l) s Q else wpQ E l (s.put dd undefA) Q) : wpQ E (⟨dd, some (t, b), i⟩ :: l) s Q := by
  have hw : wantedA s (some (t, b)) = some (c == b) := by simp only [wantedA, hc]
  by_cases e : c = b
  · rw [if_pos e] at h
    obtain ⟨s2, h3, h4⟩ := h
    refine ⟨s2, h3, fun d i' acc => ?_⟩
    obtain ⟨rs, h5, h6⟩ := h4 d i' acc
    refine ⟨rs, h5, h6.mono fun k h7 => ?_⟩
    have e1 : evalOp E (evalFn E k) none ⟨dd, some (t, b), i⟩ s = evalOp E (evalFn E k) none ⟨dd, none, i⟩ s := by
      simp only [evalOp, hw, beq_iff_eq.2 e]
      simp only [wantedA]
    have e2 : ∀ s1, recOf E ⟨dd, some (t, b), i⟩ s s1 = recOf E ⟨dd, none, i⟩ s s1 := fun _ => rfl
    simp only [evalSteps, e1, e2] at h7 ⊢
    exact h7
  · rw [if_neg e] at h
    refine wpQ_cons ⟨.normal, s.put dd undefA, ⟨rfl, hf, by cases dd <;> rfl, h⟩, .of fun k => ?_⟩
    simp only [evalOp, hw, beq_false_of_ne e]
theorem wpQ_val {dd : Option Nat} {args : List Opnd} {v : AV} {Q : St → Prop} (hv : Val E f a v) (hfr : (args.map (s.eval E)).mapM (frz s.H (depthOf s.nx)) = some a) (hT : (args.map (s.eval E)).flatMap (tch s.H (depthOf s.nx)) = [])
    (h : wpQ E l (s.put dd v) Q) : wpQ E (⟨dd, none, .callf f args⟩ :: l) s Q := by
  refine wpQ_cons ⟨.normal, s.put dd v, ⟨rfl, hT, by cases dd <;> rfl, h⟩, hv.2.2.mono fun k hk => ?_⟩
  have := callA_does (E := E) (fz := s.fz) hv.1 hv.2.1 hfr hk
  have e : fzOf [] s.fz v = s.fz := by unfold fzOf; split <;> rfl
  simp only [evalOp, wantedA, this, hT, e]
theorem wpQ_valv {dd : Option Nat} {y : Opnd} {first caps : List AV} {args : List Opnd} {v : AV} {Q : St → Prop} (hy : s.eval E y = .func f first caps) (hv : Val E f a v) (hfr : (first ++ args.map (s.eval E) ++ caps).mapM (frz s.H (depthOf s.nx)) = some a) (hT : (first ++ args.map (s.eval E) ++ caps).flatMap (tch s.H (depthOf s.nx)) = [])
    (h : wpQ E l (s.put dd v) Q) : wpQ E (⟨dd, none, .callv y args⟩ :: l) s Q := by
  refine wpQ_cons ⟨.normal, s.put dd v, ⟨rfl, by simp only [footOf, hy, hT], by cases dd <;> rfl, h⟩, hv.2.2.mono fun k hk => ?_⟩
  have := callA_does (E := E) (fz := s.fz) hv.1 hv.2.1 hfr hk
  have e : fzOf [] s.fz v = s.fz := by unfold fzOf; split <;> rfl
  simp only [evalOp, wantedA, hy, this, hT, e]
def mergeB (T : List Nat) (H : Heap) (nx : Nat) (fz : List Nat) (b : Back) : Back := ⟨b.res, merge T nx b.nx H b.H, b.nx, b.fz.filter (fun x => T.contains x || (decide (nx ≤ x) && decide (x < b.nx))) ++ fz, b.recd⟩
theorem wpA_heap {fn : AFn} {args : List AV} (h0 : E.hprim f = none) (h1 : E.prim f = none) (h2 : E.code f = some fn) (h3 : fn.heap = true)
    (h : wpF E f args (restrict H (args.flatMap (tch H (depthOf nx)))) nx ((args.flatMap (tch H (depthOf nx))).filter fun b => fz.contains b) fun b => nx ≤ b.nx ∧ R (mergeB (args.flatMap (tch H (depthOf nx))) H nx fz b)) : wpA E f args H nx fz R := by
  obtain ⟨b, ⟨h4, h5⟩, h6⟩ := h
  refine ⟨_, h5, h6.mono fun k hk => ?_⟩
  simp only [callA, h0, h1, h2, h3, if_true, hk, hback, h4, mergeB]
theorem wpA_hprim {g : List AV → Heap → Nat → List Nat → Option Back} {args : List AV} {b : Back} (h0 : E.hprim f = some g)
    (hb : g args (restrict H (args.flatMap (tch H (depthOf nx)))) nx ((args.flatMap (tch H (depthOf nx))).filter fun b => fz.contains b) = some b) (hn : nx ≤ b.nx) (h : R (mergeB (args.flatMap (tch H (depthOf nx))) H nx fz b)) : wpA E f args H nx fz R := by
  refine ⟨_, h, .of fun k => ?_⟩
  simp only [callA, h0, hb, hback, hn, if_true, mergeB]
theorem wpS_recover_none {m : Option AV} {dd : Option Nat} (hm : m = none ∨ s.recd = true) (h : wpS E (some m) l (s.put dd .nili) Q) : wpS E (some m) (⟨dd, none, .recover⟩ :: l) s Q := by
  refine wpS_cons ⟨.normal, _, h, .of fun k => ?_⟩
  simp only [evalOp, wantedA]
  rcases hm with rfl | hr
  · rfl
  · rw [hr]; cases m <;> rfl
theorem wpS_recover {v : AV} {dd : Option Nat} (hr : s.recd = false) (h : wpS E (some (some v)) l ({ s with recd := true }.put dd v) Q) : wpS E (some (some v)) (⟨dd, none, .recover⟩ :: l) s Q := by
  refine wpS_cons ⟨.normal, _, h, .of fun k => ?_⟩
  simp only [evalOp, wantedA, hr]
theorem wpL_defer {fn : AFn} {ops : List AOp} {rest : ACode} {m : Option AV} {rs : List ARes} {tmps : List AV} {ds : List (FuncId × List AV)} (hf : E.code f = some fn) (hb : fn.body = .seq (.region ops none) rest)
    (h : wpS E (some m) ops ⟨enterA fn a, H, nx, fz, [], false⟩ fun x s => x = .normal ∧ wpC E rest s fun y s2 => (y = .normal ∨ y = .ret) ∧ s2.defers = [] ∧ (resultsA fn.res s2.tmps s2.H).isSome = true ∧ nx ≤ s2.nx ∧
      wpL E rs tmps ds (if s.recd then none else m) s2.H s2.nx s2.fz R) : wpL E rs tmps ((f, a) :: ds) m H nx fz R := by
  obtain ⟨x, s1, ⟨rfl, y, s2, ⟨h1, h2, h3, h4, b, h5, h6⟩, n, h7⟩, h8⟩ := h
  obtain ⟨v, hv⟩ := Option.isSome_iff_exists.1 h3
  obtain ⟨n2, h9⟩ := h6.and h8
  refine ⟨b, h5, max n n2 + 2, fun k hk => ?_⟩
  obtain ⟨k, rfl⟩ : ∃ m, k = m + 1 := ⟨k - 1, by omega⟩
  have h10 := (h9 k (by omega)).2
  have h11 := h7 k k (by omega) (by omega)
  have h12 := (h9 (k + 1) (by omega)).1
  have hd : s2.defers.isEmpty = true := by rw [h2]; rfl
  have key : evalFn E (k + 1) f a H nx fz (some m) = some ⟨.ret v, s2.H, s2.nx, s2.fz, s1.recd⟩ := by
    rcases h1 with rfl | rfl <;> simp only [evalFn, hf, hb, h10, h11, hd, if_true, hv, Option.map_some]
  simp only [leaveA, key, h4, if_true, h12]
end
end Go.Am
end
section
namespace Go.Am
open Go
def dstsO (l : List AOp) : List Nat := l.filterMap (·.dst)
def dstsC : ACode → List Nat
  | .region l _ => dstsO l
  | .seq a b => dstsC a ++ dstsC b
  | .cond _ a b => dstsC a ++ dstsC b
  | .block _ c => dstsC c
  | .loop c => dstsC c
  | _ => []
def Fix (W : List Nat) (t t' : List AV) : Prop := t'.length = t.length ∧ ∀ n, n ∉ W → getT t' n = getT t n
section
variable {E : Env} {pan : Option (Option AV)} {s s' : St} {Q : Ex → St → Prop} {W W' : List Nat} {t t' t'' : List AV} {call : CallT} {x : Ex}
theorem Fix.refl : Fix W t t := ⟨rfl, fun _ _ => rfl⟩
theorem Fix.trans (h : Fix W t t') (k : Fix W t' t'') : Fix W t t'' := ⟨k.1.trans h.1, fun n hn => (k.2 n hn).trans (h.2 n hn)⟩
theorem Fix.mono (h : Fix W t t') (hw : ∀ n, n ∈ W → n ∈ W') : Fix W' t t' := ⟨h.1, fun n hn => h.2 n fun hm => hn (hw n hm)⟩
theorem getT_set_self {l : List AV} {d : Nat} {v : AV} (h : d < l.length) : getT (l.set d v) d = v := by
  simp [getT, List.getD_eq_getElem?_getD, h]
theorem getT_set_ne {l : List AV} {d n : Nat} {v : AV} (h : d ≠ n) : getT (l.set d v) n = getT l n := by
  simp [getT, List.getD_eq_getElem?_getD, List.getElem?_set_ne h]
theorem Fix.put {d : Nat} (v : AV) (hd : d ∈ W) : Fix W t (t.set d v) := ⟨by simp, fun n hn => getT_set_ne fun e => hn (e ▸ hd)⟩
theorem fix_put (d : Option Nat) (v : AV) (hd : ∀ e, d = some e → e ∈ W) : Fix W s.tmps (s.put d v).tmps := by
  cases d with
  | none => exact Fix.refl
  | some e => exact Fix.put v (hd e rfl)
theorem evalOp_fix {o : AOp} (h : evalOp E call pan o s = some (x, s')) : Fix (dstsO [o]) s.tmps s'.tmps := by
  have hd : ∀ e, o.dst = some e → e ∈ dstsO [o] := fun e he => List.mem_filterMap.2 ⟨o, by simp, he⟩
  have hp : ∀ (s1 : St) (v : AV), s1.tmps = s.tmps → Fix (dstsO [o]) s.tmps (s1.put o.dst v).tmps := fun s1 v e => by
    have := fix_put (s := s1) o.dst v hd
    rwa [e] at this
  simp only [evalOp] at h
  split at h
  · cases h
  · cases h; exact hp _ _ rfl
  · split at h
    · split at h
      · split at h
        · cases h; exact hp _ _ rfl
        · cases h; exact Fix.refl
      · cases h
    · split at h
      · split at h
        · split at h
          · cases h; exact hp _ _ rfl
          · cases h; exact Fix.refl
        · cases h
      · cases h
    · split at h
      · cases h; exact Fix.refl
      · cases h
    · split at h
      · cases h; exact hp _ _ rfl
      · cases h
    · split at h
      · cases h; exact hp _ _ rfl
      · cases h; exact hp _ _ rfl
      · cases h
    · split at h
      · cases h; exact hp _ _ rfl
      · cases h
theorem dstsO_cons {o : AOp} {l : List AOp} {n : Nat} : n ∈ dstsO (o :: l) ↔ n ∈ dstsO [o] ∨ n ∈ dstsO l := by
  simp [dstsO, List.filterMap_cons]
  cases o.dst <;> simp [eq_comm]
theorem evalOps_fix : ∀ {l : List AOp} {s : St}, evalOps E call pan l s = some (x, s') → Fix (dstsO l) s.tmps s'.tmps
  | [], s, h => by simp only [evalOps] at h; cases h; exact Fix.refl
  | o :: r, s, h => by
    simp only [evalOps] at h
    split at h
    · rename_i s1 h1
      exact ((evalOp_fix h1).mono fun n hn => dstsO_cons.2 (.inl hn)).trans ((evalOps_fix h).mono fun n hn => dstsO_cons.2 (.inr hn))
    · exact (evalOp_fix h).mono fun n hn => dstsO_cons.2 (.inl hn)
theorem evalSteps_fix {d : Draw} {t0 : List AV} {ops : List AOp} : ∀ {l : List AOp} {i : Nat} {s : St} {p p' : Option (Nat × AV × St)} {acc rs : List Rec}, evalSteps E call pan d i l s p acc = some (p', s', rs) → (∀ n, n ∈ dstsO l → n ∈ dstsO ops) → Fix (dstsO ops) t0 s.tmps → (∀ q, p = some q → Fix (dstsO ops) t0 q.2.2.tmps) →
    Fix (dstsO ops) t0 s'.tmps ∧ ∀ q, p' = some q → Fix (dstsO ops) t0 q.2.2.tmps
  | [], i, s, p, p', acc, rs, h, _, hs, hp => by simp only [evalSteps] at h; cases h; exact ⟨hs, hp⟩
  | o :: r, i, s, p, p', acc, rs, h, hl, hs, hp => by
    have h1 : ∀ {x : Ex} {s1 : St}, evalOp E call pan o s = some (x, s1) → Fix (dstsO ops) t0 s1.tmps := fun h => hs.trans ((evalOp_fix h).mono fun n hn => hl n (dstsO_cons.2 (.inl hn)))
    have hl' : ∀ n, n ∈ dstsO r → n ∈ dstsO ops := fun n hn => hl n (dstsO_cons.2 (.inr hn))
    cases p with
    | none =>
      simp only [evalSteps] at h
      split at h
      · rename_i s1 k1
        split at h
        · exact evalSteps_fix h hl' (h1 k1) fun q hq => by cases hq
        · cases h
      · rename_i v s1 k1
        split at h
        · exact evalSteps_fix h hl' (h1 k1) fun q hq => by cases hq; exact h1 k1
        · cases h
      · cases h
    | some q =>
      obtain ⟨k, v, tt⟩ := q
      simp only [evalSteps] at h
      split at h
      · split at h
        · rename_i s1 k1
          split at h
          · exact evalSteps_fix h hl' (h1 k1) hp
          · cases h
        · cases h
      · exact evalSteps_fix h hl' hs hp
theorem killT_fix : ∀ (l : List AOp) (t : List AV), Fix (dstsO l) t (killT l t)
  | [], t => Fix.refl
  | o :: r, t => by
    rw [killT]
    refine Fix.trans (t' := (match o.dst with | some d => t.set d .dead | none => t)) ?_ ((killT_fix r _).mono fun n hn => dstsO_cons.2 (.inr hn))
    cases hd : o.dst with
    | none => exact Fix.refl
    | some d => exact Fix.put _ (dstsO_cons.2 (.inl (List.mem_filterMap.2 ⟨o, by simp, hd⟩)))
theorem evalDraw_fix {d : Draw} {l : List AOp} (h : evalDraw E call pan d l s = some (x, s')) : Fix (dstsO l) s.tmps s'.tmps := by
  simp only [evalDraw] at h
  split at h
  · rename_i p s1 rs h1
    obtain ⟨h2, h3⟩ := evalSteps_fix (t0 := s.tmps) (ops := l) h1 (fun n hn => hn) Fix.refl fun q hq => by cases hq
    split at h
    · split at h
      · cases h; exact h2
      · cases h; exact (h3 _ rfl).trans (killT_fix l _)
    · cases h
  · cases h
theorem evalCode_fix : ∀ (n : Nat) (c : ACode) (s : St) (x : Ex) (s' : St), evalCode E call pan n c s = some (x, s') → Fix (dstsC c) s.tmps s'.tmps := by
  intro n
  induction n with
  | zero => intro c s x s' h; cases c <;> simp [evalCode] at h
  | succ n ih =>
    intro c s x s' h
    cases c with
    | skip => simp only [evalCode] at h; cases h; exact Fix.refl
    | region ops d =>
      cases d with
      | none => simp only [evalCode] at h; exact evalOps_fix h
      | some d => simp only [evalCode] at h; exact evalDraw_fix h
    | seq c1 c2 =>
      simp only [evalCode] at h
      split at h
      · rename_i s1 h1
        exact ((ih _ _ _ _ h1).mono fun n hn => List.mem_append_left _ hn).trans ((ih _ _ _ _ h).mono fun n hn => List.mem_append_right _ hn)
      · exact (ih _ _ _ _ h).mono fun n hn => List.mem_append_left _ hn
    | cond c c1 c2 =>
      simp only [evalCode] at h
      split at h
      · rename_i b hb
        have := ih _ _ _ _ h
        cases b with
        | true => exact this.mono fun n hn => List.mem_append_left _ hn
        | false => exact this.mono fun n hn => List.mem_append_right _ hn
      · cases h
    | block id c =>
      simp only [evalCode] at h
      split at h
      · rename_i i s1 h1
        split at h <;> (cases h; exact ih c _ _ _ h1)
      · exact ih c _ _ _ h
    | loop c =>
      simp only [evalCode] at h
      split at h
      · rename_i s1 h1
        exact (show Fix (dstsC (.loop c)) _ _ from ih c _ _ _ h1).trans (ih (.loop c) _ _ _ h)
      · exact ih c _ _ _ h
    | exit id => simp only [evalCode] at h; cases h; exact Fix.refl
    | ret => simp only [evalCode] at h; cases h; exact Fix.refl
    | fail => simp [evalCode] at h
theorem wpC.fix {c : ACode} (h : wpC E c s Q) : wpC E c s fun x s' => Q x s' ∧ Fix (dstsC c) s.tmps s'.tmps := by
  obtain ⟨x, s1, h1, n, h2⟩ := h
  exact ⟨x, s1, ⟨h1, evalCode_fix _ _ _ _ _ (h2 n n (Nat.le_refl _) (Nat.le_refl _))⟩, n, h2⟩
theorem wpC_loop_fix {c : ACode} (W : List Nat) (hW : dstsC c = W) (I : Nat → St → Prop) {m0 : Nat} {s0 : St} (h0 : I m0 s0) (step : ∀ m s, I m s → Fix W s0.tmps s.tmps → wpC E c s (nextC I m Q)) : wpC E (.loop c) s0 Q := by
  subst hW
  refine wpC_loop (fun m s => I m s ∧ Fix (dstsC c) s0.tmps s.tmps) (fun m s ⟨h1, h2⟩ => ?_) m0 s0 ⟨h0, Fix.refl⟩
  refine (step m s h1 h2).fix.mono fun x s' ⟨h3, h4⟩ => ?_
  cases x with
  | normal => obtain ⟨m', hm, hI⟩ := h3; exact ⟨m', hm, hI, h2.trans h4⟩
  | exit id => exact h3
  | ret => exact h3
  | panic v => exact h3
end
end Go.Am
end
