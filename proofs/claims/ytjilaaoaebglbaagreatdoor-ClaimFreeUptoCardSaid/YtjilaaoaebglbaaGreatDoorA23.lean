/- Parts of the proof. -/
import Derived.Test.YtjilaaoaebglbaaGreatDoorA03
set_option linter.unusedVariables false
set_option linter.unusedSimpArgs false
set_option linter.unnecessarySimpa false
set_option linter.unusedSectionVars false
section
namespace Go.Am
open Go
def Le (c c' : CallT) : Prop := ∀ f a H nx fz m b, c f a H nx fz m = some b → c' f a H nx fz m = some b
section
variable {E : Env} {c c' : CallT} {pan : Option (Option AV)}
theorem Le.refl : Le c c := fun _ _ _ _ _ _ _ h => h
theorem callA_le (h : Le c c') {f : FuncId} {a : List AV} {H : Heap} {nx : Nat} {fz : List Nat} {b : Back} (hb : callA E c f a H nx fz = some b) : callA E c' f a H nx fz = some b := by
  simp only [callA] at hb ⊢
  split at hb
  · exact hb
  · split at hb
    · exact hb
    · split at hb
      · cases hb
      · split at hb
        · rename_i hh
          rw [if_pos hh]
          unfold hback at hb ⊢
          split at hb
          · rename_i b1 h1; rw [h _ _ _ _ _ _ _ h1]; exact hb
          · cases hb
        · rename_i hh
          rw [if_neg hh]
          split at hb
          · split at hb
            · rename_i h1; simp only [h _ _ _ _ _ _ _ h1]; exact hb
            · cases hb
          · cases hb
theorem evalOp_le (h : Le c c') {o : AOp} {s : St} {r : Ex × St} (hb : evalOp E c pan o s = some r) : evalOp E c' pan o s = some r := by
  unfold evalOp at hb ⊢
  split at hb
  · cases hb
  · exact hb
  · split at hb
    · split at hb
      · rename_i b h1; simp only [callA_le h h1]; exact hb
      · cases hb
    · split at hb
      · split at hb
        · rename_i b h1; simp only [callA_le h h1]; exact hb
        · cases hb
      · cases hb
    all_goals exact hb
theorem evalOps_le (h : Le c c') : ∀ {l : List AOp} {s : St} {r : Ex × St}, evalOps E c pan l s = some r → evalOps E c' pan l s = some r
  | [], s, r, hb => hb
  | o :: l, s, r, hb => by
    unfold evalOps at hb ⊢
    cases ho : evalOp E c pan o s with
    | none => rw [ho] at hb; cases hb
    | some q =>
      rw [ho] at hb
      rw [evalOp_le h ho]
      obtain ⟨x, s'⟩ := q
      cases x <;> first | exact evalOps_le h hb | exact hb
theorem evalSteps_le (h : Le c c') {d : Draw} : ∀ {l : List AOp} {i : Nat} {s : St} {p : Option (Nat × AV × St)} {acc : List Rec} {r : Option (Nat × AV × St) × St × List Rec}, evalSteps E c pan d i l s p acc = some r → evalSteps E c' pan d i l s p acc = some r
  | [], i, s, p, acc, r, hb => by cases p <;> exact hb
  | o :: l, i, s, some (k, v, t), acc, r, hb => by
    simp only [evalSteps] at hb ⊢
    split at hb
    · rename_i hc
      rw [if_pos hc]
      cases ho : evalOp E c pan o s with
      | none => rw [ho] at hb; cases hb
      | some q =>
        rw [ho] at hb
        rw [evalOp_le h ho]
        obtain ⟨x, s'⟩ := q
        cases x
        case normal =>
          simp only at hb ⊢
          split at hb
          · rename_i hn; rw [if_pos hn]; exact evalSteps_le h hb
          · cases hb
        all_goals cases hb
    · rename_i hc; rw [if_neg hc]; exact evalSteps_le h hb
  | o :: l, i, s, none, acc, r, hb => by
    simp only [evalSteps] at hb ⊢
    cases ho : evalOp E c pan o s with
    | none => rw [ho] at hb; cases hb
    | some q =>
      rw [ho] at hb
      rw [evalOp_le h ho]
      obtain ⟨x, s'⟩ := q
      cases x
      case normal =>
        simp only at hb ⊢
        split at hb
        · rename_i hn; rw [if_pos hn]; exact evalSteps_le h hb
        · cases hb
      case panic v =>
        simp only at hb ⊢
        split at hb
        · rename_i hn; rw [if_pos hn]; exact evalSteps_le h hb
        · cases hb
      all_goals cases hb
theorem evalDraw_le (h : Le c c') {d : Draw} {l : List AOp} {s : St} {r : Ex × St} (hb : evalDraw E c pan d l s = some r) : evalDraw E c' pan d l s = some r := by
  unfold evalDraw at hb ⊢
  cases ho : evalSteps E c pan d 0 l s none [] with
  | none => rw [ho] at hb; cases hb
  | some q => rw [ho] at hb; rw [evalSteps_le h ho]; exact hb
theorem evalCode_le (h : Le c c') : ∀ {n m : Nat} {k : ACode} {s : St} {r : Ex × St}, n ≤ m → evalCode E c pan n k s = some r → evalCode E c' pan m k s = some r := by
  intro n
  induction n with
  | zero => intro m k s r _ hb; cases k <;> cases hb
  | succ n ih =>
    intro m k s r hm hb
    obtain ⟨m, rfl⟩ : ∃ j, m = j + 1 := ⟨m - 1, by omega⟩
    have hm : n ≤ m := by omega
    cases k with
    | skip => exact hb
    | region l d =>
      cases d with
      | none => exact evalOps_le h hb
      | some d => exact evalDraw_le h hb
    | seq a b =>
      simp only [evalCode] at hb ⊢
      cases ho : evalCode E c pan n a s with
      | none => rw [ho] at hb; cases hb
      | some q =>
        rw [ho] at hb; rw [ih hm ho]
        obtain ⟨x, s'⟩ := q
        cases x <;> first | exact ih hm hb | exact hb
    | cond y a b =>
      simp only [evalCode] at hb ⊢
      cases ho : St.eval E s y <;> rw [ho] at hb <;> first | exact ih hm hb | cases hb
    | block id a =>
      simp only [evalCode] at hb ⊢
      cases ho : evalCode E c pan n a s with
      | none => rw [ho] at hb; cases hb
      | some q => rw [ho] at hb; rw [ih hm ho]; exact hb
    | loop a =>
      simp only [evalCode] at hb ⊢
      cases ho : evalCode E c pan n a s with
      | none => rw [ho] at hb; cases hb
      | some q =>
        rw [ho] at hb; rw [ih hm ho]
        obtain ⟨x, s'⟩ := q
        cases x <;> first | exact ih hm hb | exact hb
    | exit id => exact hb
    | ret => exact hb
    | fail => cases hb
theorem leaveA_le (h : Le c c') {rs : List ARes} {t : List AV} : ∀ {ds : List (FuncId × List AV)} {m : Option AV} {H : Heap} {nx : Nat} {fz : List Nat} {b : Back}, leaveA c rs t ds m H nx fz = some b → leaveA c' rs t ds m H nx fz = some b
  | [], none, H, nx, fz, b, hb => hb
  | [], some v, H, nx, fz, b, hb => hb
  | (f, a) :: ds, m, H, nx, fz, b, hb => by
    simp only [leaveA] at hb ⊢
    cases ho : c f a H nx fz (some m) with
    | none => rw [ho] at hb; cases hb
    | some q =>
      rw [ho] at hb
      rw [h _ _ _ _ _ _ _ ho]
      obtain ⟨res, H', nx', fz', r⟩ := q
      cases res with
      | panic v => cases hb
      | ret v =>
        simp only at hb ⊢
        split at hb
        · rename_i hn; rw [if_pos hn]; exact leaveA_le h hb
        · cases hb
end
theorem evalFn_le (E : Env) : ∀ k, Le (evalFn E k) (evalFn E (k + 1)) := by
  intro k
  induction k with
  | zero => intro f a H nx fz m b hb; cases m <;> cases hb
  | succ k ih =>
    intro f a H nx fz m b hb
    cases m with
    | none =>
      simp only [evalFn] at hb ⊢
      cases hf : E.code f with
      | none => rw [hf] at hb; cases hb
      | some fn =>
        rw [hf] at hb
        simp only at hb ⊢
        cases ho : evalCode E (evalFn E k) none k fn.body ⟨enterA fn a, H, nx, fz, [], false⟩ with
        | none => rw [ho] at hb; cases hb
        | some q =>
          rw [ho] at hb
          rw [evalCode_le ih (Nat.le_succ k) ho]
          obtain ⟨x, s'⟩ := q
          cases x
          case exit => cases hb
          all_goals exact leaveA_le ih hb
    | some m =>
      simp only [evalFn] at hb ⊢
      cases hf : E.code f with
      | none => rw [hf] at hb; cases hb
      | some fn =>
        rw [hf] at hb
        simp only at hb ⊢
        split at hb
        · rename_i ops rest hbd
          cases ho : evalOps E (evalFn E k) (some m) ops ⟨enterA fn a, H, nx, fz, [], false⟩ with
          | none => rw [ho] at hb; cases hb
          | some q =>
            rw [ho] at hb
            rw [evalOps_le ih ho]
            obtain ⟨x, s'⟩ := q
            cases x
            case normal =>
              simp only at hb ⊢
              cases ho2 : evalCode E (evalFn E k) none k rest s' with
              | none => rw [ho2] at hb; cases hb
              | some q2 =>
                rw [ho2] at hb
                rw [evalCode_le ih (Nat.le_succ k) ho2]
                exact hb
            all_goals cases hb
        · cases hb
theorem evalFn_more (E : Env) {n : Nat} : ∀ {k : Nat}, n ≤ k → Le (evalFn E n) (evalFn E k) := by
  intro k
  induction k with
  | zero =>
    intro h
    have e : n = 0 := by omega
    subst e; exact Le.refl
  | succ k ih =>
    intro h
    by_cases e : n = k + 1
    · subst e; exact Le.refl
    · exact fun f a H nx fz m b hb => evalFn_le E k _ _ _ _ _ _ _ (ih (by omega) f a H nx fz m b hb)
theorem val_once {E : Env} {f : FuncId} {a : List AV} {v u : AV} {fn : AFn} {n : Nat} {b : Back} (h0 : E.hprim f = none) (h1 : E.prim f = none) (h2 : E.code f = some fn) (h3 : fn.heap = false) (hb : evalFn E n f a [] 0 [] none = some b) (hr : b.res = .ret u) (hv : frz b.H (depthOf b.nx) u = some v) : Val E f a v :=
  val_of h0 h1 h2 h3 ⟨b, ⟨u, hr, hv⟩, n, fun k hk => evalFn_more E hk _ _ _ _ _ _ _ hb⟩
end Go.Am
end
