/- Parts of the proof. -/
import Derived.Attr
import Derived.Test.YtjilaaoaebglbaaGreatDoorA03
import Derived.Test.YtjilaaoaebglbaaGreatDoorA04
set_option linter.unusedVariables false
set_option linter.unusedSimpArgs false
set_option linter.unnecessarySimpa false
set_option linter.unusedSectionVars false
section
namespace Go.Am
open Go Go.Nt
theorem wrap8 (n : Int) : IntKind.u8.wrap n = n % 256 := by simp [IntKind.wrap, IntKind.bits, IntKind.signed]
theorem wrap32 (n : Int) : IntKind.u32.wrap n = n % 4294967296 := by simp [IntKind.wrap, IntKind.bits, IntKind.signed]
theorem wrap64 (n : Int) : IntKind.u64.wrap n = n % 18446744073709551616 := by simp [IntKind.wrap, IntKind.bits, IntKind.signed]
theorem wrapI (n : Int) : IntKind.i64.wrap n = (n + 9223372036854775808) % 18446744073709551616 - 9223372036854775808 := by
  simp [IntKind.wrap, IntKind.bits, IntKind.signed]; omega
theorem wrapI_id {n : Int} (h : -9223372036854775808 ≤ n) (h2 : n < 9223372036854775808) : IntKind.i64.wrap n = n := by rw [wrapI]; omega
theorem wrap8_nat (n : Nat) : IntKind.u8.wrap (n : Int) = ((n % 256 : Nat) : Int) := by rw [wrap8]; omega
theorem wrap32_nat (n : Nat) : IntKind.u32.wrap (n : Int) = ((n % 4294967296 : Nat) : Int) := by rw [wrap32]; omega
theorem wrap64_nat (n : Nat) : IntKind.u64.wrap (n : Int) = ((n % 18446744073709551616 : Nat) : Int) := by rw [wrap64]; omega
theorem ofInt_nat {n : Nat} (x : Nat) (hx : x < 2 ^ n) : (BitVec.ofInt n (x : Int)).toNat = x := by
  rw [BitVec.toNat_ofInt]
  have : ((x : Int) % ((2 ^ n : Nat) : Int)) = (x : Int) := Int.emod_eq_of_lt (by omega) (by exact_mod_cast hx)
  rw [this]; rfl
theorem band {n : Nat} {x y : Nat} (hx : x < 2 ^ n) (hy : y < 2 ^ n) : (BitVec.ofInt n (x : Int) &&& BitVec.ofInt n (y : Int)).toNat = x &&& y := by
  rw [BitVec.toNat_and, ofInt_nat x hx, ofInt_nat y hy]
theorem bor {n : Nat} {x y : Nat} (hx : x < 2 ^ n) (hy : y < 2 ^ n) : (BitVec.ofInt n (x : Int) ||| BitVec.ofInt n (y : Int)).toNat = x ||| y := by
  rw [BitVec.toNat_or, ofInt_nat x hx, ofInt_nat y hy]
theorem or32 {x y : Nat} (hx : x < 4294967296) (hy : y < 4294967296) : binInt .or .u32 (x : Int) (y : Int) = some (.int .u32 ((x ||| y : Nat) : Int)) := by
  have h := bor (n := 32) hx hy
  have h2 : x ||| y < 2 ^ 32 := Nat.or_lt_two_pow hx hy
  show some (AV.int .u32 (IntKind.u32.wrap ((BitVec.ofInt 32 (x : Int) ||| BitVec.ofInt 32 (y : Int)).toNat : Int))) = _
  rw [h, wrap32_nat, Nat.mod_eq_of_lt h2]
theorem or64 {x y : Nat} (hx : x < 18446744073709551616) (hy : y < 18446744073709551616) : binInt .or .u64 (x : Int) (y : Int) = some (.int .u64 ((x ||| y : Nat) : Int)) := by
  have h := bor (n := 64) hx hy
  have h2 : x ||| y < 2 ^ 64 := Nat.or_lt_two_pow hx hy
  show some (AV.int .u64 (IntKind.u64.wrap ((BitVec.ofInt 64 (x : Int) ||| BitVec.ofInt 64 (y : Int)).toNat : Int))) = _
  rw [h, wrap64_nat, Nat.mod_eq_of_lt h2]
theorem and32 {x y : Nat} (hx : x < 4294967296) (hy : y < 4294967296) : binInt .and .u32 (x : Int) (y : Int) = some (.int .u32 ((x &&& y : Nat) : Int)) := by
  have h := band (n := 32) hx hy
  have h2 : x &&& y < 2 ^ 32 := Nat.and_lt_two_pow _ hy
  show some (AV.int .u32 (IntKind.u32.wrap ((BitVec.ofInt 32 (x : Int) &&& BitVec.ofInt 32 (y : Int)).toNat : Int))) = _
  rw [h, wrap32_nat, Nat.mod_eq_of_lt h2]
theorem and64 {x y : Nat} (hx : x < 18446744073709551616) (hy : y < 18446744073709551616) : binInt .and .u64 (x : Int) (y : Int) = some (.int .u64 ((x &&& y : Nat) : Int)) := by
  have h := band (n := 64) hx hy
  have h2 : x &&& y < 2 ^ 64 := Nat.and_lt_two_pow _ hy
  show some (AV.int .u64 (IntKind.u64.wrap ((BitVec.ofInt 64 (x : Int) &&& BitVec.ofInt 64 (y : Int)).toNat : Int))) = _
  rw [h, wrap64_nat, Nat.mod_eq_of_lt h2]
theorem andI {x y : Nat} (hx : x < 9223372036854775808) (hy : y < 9223372036854775808) : binInt .and .i64 (x : Int) (y : Int) = some (.int .i64 ((x &&& y : Nat) : Int)) := by
  have h := band (n := 64) (x := x) (y := y) (by omega) (by omega)
  have h2 : x &&& y < 2 ^ 63 := Nat.and_lt_two_pow _ hy
  show some (AV.int .i64 (IntKind.i64.wrap ((BitVec.ofInt 64 (x : Int) &&& BitVec.ofInt 64 (y : Int)).toNat : Int))) = _
  rw [h, wrapI_id (by omega) (by omega)]
def ints (k : IntKind) (l : List Nat) : List AV := l.map fun (d : Nat) => AV.int k (d : Int)
section
variable {k : IntKind} {l m : List Nat} {i : Nat} {d : Nat}
theorem ints_len : (ints k l).length = l.length := by simp [ints]
theorem ints_append : ints k (l ++ m) = ints k l ++ ints k m := by simp [ints]
theorem ints_take (n : Nat) : (ints k l).take n = ints k (l.take n) := by simp [ints]
theorem ints_drop (n : Nat) : (ints k l).drop n = ints k (l.drop n) := by simp [ints]
theorem ints_get (h : i < l.length) : (ints k l)[i]? = some (.int k ((dg l i : Nat) : Int)) := by
  simp [ints, dg, List.getD_eq_getElem?_getD, h]
theorem ints_head (h : i < l.length) : ((ints k l).drop i)[0]? = some (.int k ((dg l i : Nat) : Int)) := by
  rw [List.getElem?_drop, Nat.add_zero]; exact ints_get h
theorem ints_set (h : i < l.length) : (ints k l).take i ++ [AV.int k (d : Int)] ++ (ints k l).drop (i + 1) = ints k (l.set i d) := by
  rw [List.set_eq_take_append_cons_drop, if_pos h]
  simp [ints]
theorem ints_replicate (n : Nat) : repeatA [AV.int k 0] n = ints k (List.replicate n 0) := by
  induction n with
  | zero => rfl
  | succ n ih => rw [repeatA, ih, List.replicate_succ]; rfl
theorem ints_cons : ints k (d :: l) = .int k (d : Int) :: ints k l := rfl
theorem ints_nil : ints k [] = [] := rfl
theorem flat_ints : flatL (ints k l) = true := by
  simp [flatL, ints, AV.flat]
end
end Go.Am
end
section
namespace Go.Am
open Go
section
variable {E : Env} {t : List AV} {H : Heap} {nx : Nat} {fz : List Nat} {ds : List (FuncId × List AV)} {r : Bool} {n d : Nat} {v : AV}
theorem put_mk : St.put ⟨t, H, nx, fz, ds, r⟩ (some d) v = ⟨t.set d v, H, nx, fz, ds, r⟩ := rfl
theorem put_none {s : St} : St.put s none v = s := rfl
theorem eval_tmp {s : St} : St.eval E s (.tmp n) = getT s.tmps n := rfl
theorem eval_const {s : St} : St.eval E s (.const v) = v := rfl
theorem getT_zero {a : AV} {l : List AV} : getT (a :: l) 0 = a := rfl
theorem getT_succ {a : AV} {l : List AV} : getT (a :: l) (n + 1) = getT l n := by simp [getT]
theorem len_set {l : List AV} : (l.set d v).length = l.length := by simp
theorem len_enter {fn : AFn} {a : List AV} (h : a.length ≤ fn.ntmps) : (enterA fn a).length = fn.ntmps := by
  simp [enterA]; omega
theorem getT_enter {fn : AFn} {a : List AV} (h : n < a.length) : getT (enterA fn a) n = a[n] := by
  simp [enterA, getT, List.getD_eq_getElem?_getD, List.getElem?_append_left h, h]
theorem getT_enter_out {fn : AFn} {a : List AV} (h : a.length ≤ n) : getT (enterA fn a) n = undefA := by
  simp only [enterA, getT, List.getD_eq_getElem?_getD, List.getElem?_append_right h, List.getElem?_replicate]
  split <;> rfl
theorem wpF_fn {E : Env} {f : FuncId} {fn : AFn} {a : List AV} {R : Back → Prop} {N : Nat} {rs : List ARes} {hp : Bool} {body : ACode} (hf : E.code f = some fn) (hfn : fn = ⟨N, rs, hp, body⟩) (ha : a.length ≤ N)
    (h : ∀ T : List AV, T.length = N → (∀ (i : Nat) (x : AV), a[i]? = some x → getT T i = x) → wpC E body ⟨T, H, nx, fz, [], false⟩ (leaveC E rs R)) : wpF E f a H nx fz R := by
  subst hfn
  refine wpF_enter hf (h _ (len_enter ha) fun i x hx => ?_)
  obtain ⟨hi, rfl⟩ := List.getElem?_eq_some_iff.1 hx
  exact getT_enter hi
theorem leave_ret {E : Env} {R : Back → Prop} {rs : List ARes} (hv : resultsA rs t H = some v) (h : R ⟨.ret v, H, nx, fz, false⟩) : leaveC E rs R .ret ⟨t, H, nx, fz, [], r⟩ := wpL_nil hv h
theorem leave_normal {E : Env} {R : Back → Prop} {rs : List ARes} (hv : resultsA rs t H = some v) (h : R ⟨.ret v, H, nx, fz, false⟩) : leaveC E rs R .normal ⟨t, H, nx, fz, [], r⟩ := wpL_nil hv h
theorem leave_panic {E : Env} {R : Back → Prop} {rs : List ARes} (h : R ⟨.panic v, H, nx, fz, false⟩) : leaveC E rs R (.panic v) ⟨t, H, nx, fz, [], r⟩ := wpL_panic h
theorem getT_set_lt {l : List AV} {N : Nat} (hN : l.length = N) (h : d < N) : getT (l.set d v) d = v := getT_set_self (hN ▸ h)
theorem getB_set_same {b : Nat} {x : Option Blk} : getB (setB H b x) b = x := by rw [getB_setB, if_pos rfl]
theorem getB_set_ne {b b' : Nat} {x : Option Blk} (h : b' ≠ b) : getB (setB H b x) b' = getB H b' := by rw [getB_setB, if_neg h]
end
end Go.Am
end
section
namespace Go.Am
open Go
def stepK (o : Out) (K : AV → Heap → Nat → Prop) : Prop := match o with
  | some (v, H, nx) => K v H nx
  | none => False
def optK {α : Type} (o : Option α) (K : α → Prop) : Prop := match o with
  | some v => K v
  | none => False
def opT (E : Env) (t : List AV) : Opnd → AV
  | .tmp n => getT t n
  | .const v => v
  | .glob g => match E.glob g with | some cs => .sp cs | none => undefA
def isT (v : AV) (K : Bool → Prop) : Prop := match v with
  | .bool b => K b
  | _ => False
def backO (t : List AV) (ds : List (FuncId × List AV)) (r : Bool) (dd : Option Nat) (Z : Ex → St → Prop) (b : Back) : Prop :=
  match b.res with
  | .ret v => Z .normal (St.put ⟨t, b.H, b.nx, b.fz, ds, r⟩ dd v)
  | .panic v => Z (.panic v) ⟨t, b.H, b.nx, b.fz, ds, r⟩
def vCall (E : Env) (pan : Option (Option AV)) (x : AV) (xs : List AV) (H : Heap) (nx : Nat) (fz : List Nat) (R : Back → Prop) : Prop := match x with
  | .func f first caps => wpA E f (first ++ xs ++ caps) H nx fz R
  | _ => False
def vPan (x : AV) (K : AV → Prop) : Prop := match x with
  | .iface u v => K (.iface u v)
  | _ => False
def vI (E : Env) (pan : Option (Option AV)) (dd : Option Nat) (i : Insn) (s : St) (Z : Ex → St → Prop) : Prop :=
  match i with
  | .callf f xs => wpA E f (xs.map (opT E s.tmps)) s.H s.nx s.fz (backO s.tmps s.defers s.recd dd Z)
  | .callv x xs => match opT E s.tmps x with
    | .func f first caps => wpA E f (first ++ xs.map (opT E s.tmps) ++ caps) s.H s.nx s.fz (backO s.tmps s.defers s.recd dd Z)
    | _ => False
  | .panic x => match opT E s.tmps x with
    | .iface u v => Z (.panic (.iface u v)) s
    | _ => False
  | .defer x xs => match opT E s.tmps x with
    | .func f first caps => Z .normal (St.put { s with defers := (f, first ++ xs.map (opT E s.tmps) ++ caps) :: s.defers } dd undefA)
    | _ => False
  | .recover => match pan, s.recd with
    | some (some v), false => Z .normal (St.put { s with recd := true } dd v)
    | some _, _ => Z .normal (s.put dd .nili)
    | none, _ => False
  | i => stepK (evalI (opT E s.tmps) s.fz s.nx s.H i) fun v H' nx' => Z .normal (St.put { s with H := H', nx := nx' } dd v)
def vO (E : Env) (pan : Option (Option AV)) (o : AOp) (s : St) (Z : Ex → St → Prop) : Prop :=
  match o.guard with
  | none => vI E pan o.dst o.ins s Z
  | some (n, b) => match getT s.tmps n with
    | .bool c => if c = b then vI E pan o.dst o.ins s Z else Z .normal (s.put o.dst undefA)
    | .dead => False
    | _ => Z .normal (s.put o.dst undefA)
def vS (E : Env) (pan : Option (Option AV)) : List AOp → St → (Ex → St → Prop) → Prop
  | [], s, Q => Q .normal s
  | o :: l, s, Q => vO E pan o s fun x s' => match x with
    | .normal => vS E pan l s' Q
    | x => Q x s'
def seqS (E : Env) (pan : Option (Option AV)) (l : List AOp) (Q : Ex → St → Prop) : Ex → St → Prop := fun x s' => match x with
  | .normal => vS E pan l s' Q
  | x => Q x s'
def vP (E : Env) (d : Draw) (k : Nat) (v : AV) (t : St) : Nat → List AOp → St → List Rec → (Option (Nat × AV × St) → St → List Rec → Prop) → Prop
  | _, [], s, acc, K => K (some (k, v, t)) s acc.reverse
  | i, o :: l, s, acc, K => if (d.free.getD k []).contains i then vO E none o s fun x s' => x = .normal ∧ newOk s s' = true ∧ vP E d k v t (i + 1) l s' (recOf E o s s' :: acc) K
    else vP E d k v t (i + 1) l s (⟨false, [], []⟩ :: acc) K
def seqP (E : Env) (d : Draw) (k : Nat) (v : AV) (t : St) (i : Nat) (l : List AOp) (o : AOp) (s : St) (acc : List Rec) (K : Option (Nat × AV × St) → St → List Rec → Prop) : Ex → St → Prop := fun x s' => x = .normal ∧ newOk s s' = true ∧ vP E d k v t (i + 1) l s' (recOf E o s s' :: acc) K
def vT (E : Env) (d : Draw) : Nat → List AOp → St → List Rec → (Option (Nat × AV × St) → St → List Rec → Prop) → Prop
  | _, [], s, acc, K => K none s acc.reverse
  | i, o :: l, s, acc, K => vO E none o s fun x s' => newOk s s' = true ∧ match x with
    | .normal => vT E d (i + 1) l s' (recOf E o s s' :: acc) K
    | .panic v => vP E d i v s' (i + 1) l s' (recOf E o s s' :: acc) K
    | _ => False
def seqT (E : Env) (d : Draw) (i : Nat) (l : List AOp) (o : AOp) (s : St) (acc : List Rec) (K : Option (Nat × AV × St) → St → List Rec → Prop) : Ex → St → Prop := fun x s' => newOk s s' = true ∧ match x with
    | .normal => vT E d (i + 1) l s' (recOf E o s s' :: acc) K
    | .panic v => vP E d i v s' (i + 1) l s' (recOf E o s s' :: acc) K
    | _ => False
def vC (E : Env) : ACode → St → (Ex → St → Prop) → Prop
  | .skip, s, Q => Q .normal s
  | .ret, s, Q => Q .ret s
  | .exit id, s, Q => Q (.exit id) s
  | .region l none, s, Q => vS E none l s Q
  | .region l (some d), s, Q => vT E d 0 l s [] (drawC l d Q)
  | .seq a b, s, Q => vC E a s fun x s' => match x with
    | .normal => vC E b s' Q
    | x => Q x s'
  | .cond y a b, s, Q => isT (opT E s.tmps y) fun q => if q then vC E a s Q else vC E b s Q
  | .block id c, s, Q => vC E c s (outC id Q)
  | .loop c, s, Q => wpC E (.loop c) s Q
  | .fail, _, _ => False
def seqC (E : Env) (b : ACode) (Q : Ex → St → Prop) : Ex → St → Prop := fun x s' => match x with
  | .normal => vC E b s' Q
  | x => Q x s'
section
variable {E : Env} {pan : Option (Option AV)} {t : List AV} {H H' : Heap} {nx nx' : Nat} {fz : List Nat} {ds : List (FuncId × List AV)} {r : Bool} {n d : Nat} {v : AV} {l : List AOp} {Q : Ex → St → Prop} {K : AV → Heap → Nat → Prop} {c1 c2 : ACode} {s : St} {i : Insn} {Z : Ex → St → Prop}
@[go_sem] theorem stepK_some : stepK (some (v, H, nx)) K ↔ K v H nx := Iff.rfl
@[go_sem] theorem stepK_none : stepK none K ↔ False := Iff.rfl
@[go_sem] theorem stepK_ite {c : Prop} [Decidable c] {o : Out} : stepK (if c then o else none) K ↔ c ∧ stepK o K := by
  by_cases h : c <;> simp [h, stepK]
@[go_sem] theorem stepK_pure {o : Option AV} : stepK (Out.pure H nx o) K ↔ optK o (fun v => K v H nx) := by cases o <;> exact Iff.rfl
@[go_sem] theorem optK_some {α : Type} {v : α} {K : α → Prop} : optK (some v) K ↔ K v := Iff.rfl
@[go_sem] theorem optK_none {α : Type} {K : α → Prop} : optK (none : Option α) K ↔ False := Iff.rfl
@[go_sem] theorem optK_map {α β : Type} {f : α → β} {o : Option α} {K : β → Prop} : optK (o.map f) K ↔ optK o (fun v => K (f v)) := by cases o <;> exact Iff.rfl
@[go_sem] theorem optK_ite {α : Type} {c : Prop} [Decidable c] {o : Option α} {K : α → Prop} : optK (if c then o else none) K ↔ c ∧ optK o K := by
  by_cases h : c <;> simp [h, optK]
@[go_sem] theorem isT_bool {b : Bool} {K : Bool → Prop} : isT (.bool b) K ↔ K b := Iff.rfl
@[go_sem] theorem opT_tmp : opT E t (.tmp n) = getT t n := rfl
@[go_sem] theorem opT_const : opT E t (.const v) = v := rfl
theorem eval_mk : St.eval E ⟨t, H, nx, fz, ds, r⟩ = opT E t := by funext x; cases x <;> rfl
theorem eval_opT (s : St) : St.eval E s = opT E s.tmps := by funext x; cases x <;> rfl
theorem vI_ok {dd : Option Nat} (h : vI E pan dd i s Z) : wpO E pan ⟨dd, none, i⟩ s Z := by
  have plain : plainI i = true → stepK (evalI (opT E s.tmps) s.fz s.nx s.H i) (fun v H' nx' => Z .normal (St.put { s with H := H', nx := nx' } dd v)) → wpO E pan ⟨dd, none, i⟩ s Z := fun hp h => by
    cases he : evalI (opT E s.tmps) s.fz s.nx s.H i with
    | none => rw [he] at h; exact h.elim
    | some o =>
      obtain ⟨v, H', nx'⟩ := o
      rw [he] at h
      exact ⟨.normal, _, h, .of fun k => evalOp_plain hp (by rw [eval_opT]; exact he)⟩
  cases i
  case callf f xs =>
    obtain ⟨b, hb, hk⟩ := h
    unfold backO at hb
    cases hr : b.res with
    | ret v => rw [hr] at hb; exact ⟨_, _, hb, hk.mono fun k h3 => by simp only [evalOp, wantedA, eval_opT, h3, hr]⟩
    | panic v => rw [hr] at hb; exact ⟨_, _, hb, hk.mono fun k h3 => by simp only [evalOp, wantedA, eval_opT, h3, hr]⟩
  case callv x xs =>
    simp only [vI] at h
    split at h
    · rename_i f first caps hx
      obtain ⟨b, hb, hk⟩ := h
      unfold backO at hb
      cases hr : b.res with
      | ret v => rw [hr] at hb; exact ⟨_, _, hb, hk.mono fun k h3 => by simp only [evalOp, wantedA, eval_opT, hx, h3, hr]⟩
      | panic v => rw [hr] at hb; exact ⟨_, _, hb, hk.mono fun k h3 => by simp only [evalOp, wantedA, eval_opT, hx, h3, hr]⟩
    · exact h.elim
  case panic x =>
    simp only [vI] at h
    split at h
    · rename_i u v hx
      exact ⟨_, _, h, .of fun k => by simp only [evalOp, wantedA, eval_opT, hx]⟩
    · exact h.elim
  case defer x xs =>
    simp only [vI] at h
    split at h
    · rename_i f first caps hx
      exact ⟨_, _, h, .of fun k => by simp only [evalOp, wantedA, eval_opT, hx]⟩
    · exact h.elim
  case recover =>
    simp only [vI] at h
    split at h
    · rename_i v hr
      exact ⟨_, _, h, .of fun k => by simp only [evalOp, wantedA, hr]⟩
    · rename_i m hno
      refine ⟨.normal, _, h, .of fun k => ?_⟩
      simp only [evalOp, wantedA]
    · exact h.elim
  all_goals exact plain rfl h
theorem vO_ok {o : AOp} (h : vO E pan o s Z) : wpO E pan o s Z := by
  obtain ⟨dd, g, i⟩ := o
  unfold vO at h
  cases g with
  | none => exact vI_ok h
  | some g =>
    obtain ⟨n, b⟩ := g
    simp only at h
    have no : wantedA s (some (n, b)) = some false → Z .normal (s.put dd undefA) → wpO E pan ⟨dd, some (n, b), i⟩ s Z := fun hw h => ⟨.normal, _, h, .of fun k => by simp only [evalOp, hw]⟩
    split at h
    · rename_i c hc
      have hw : wantedA s (some (n, b)) = some (c == b) := by simp only [wantedA, hc]
      split at h
      · rename_i e
        obtain ⟨x, s', h1, h2⟩ := vI_ok h
        refine ⟨x, s', h1, h2.mono fun k h3 => ?_⟩
        have : evalOp E (evalFn E k) pan ⟨dd, some (n, b), i⟩ s = evalOp E (evalFn E k) pan ⟨dd, none, i⟩ s := by
          simp only [evalOp, hw, beq_iff_eq.2 e]
          simp only [wantedA]
        rw [this]; exact h3
      · rename_i e
        exact no (by rw [hw, beq_false_of_ne e]) h
    · exact h.elim
    · rename_i hb hd
      refine no ?_ h
      simp only [wantedA]
theorem wpO.mono {o : AOp} (h : wpO E pan o s Z) {Z' : Ex → St → Prop} (hz : ∀ x s', Z x s' → Z' x s') : wpO E pan o s Z' := let ⟨x, s', h1, h2⟩ := h; ⟨x, s', hz _ _ h1, h2⟩
theorem vS_ok : ∀ {l : List AOp} {s : St}, vS E pan l s Q → wpS E pan l s Q
  | [], s, h => wpS_nil h
  | o :: l, s, h => by
    refine wpS_cons ((vO_ok h).mono fun x s' hx => ?_)
    cases x <;> first | exact vS_ok hx | exact hx
theorem vP_ok {d : Draw} {k : Nat} {v : AV} {t : St} {KT : Option (Nat × AV × St) → St → List Rec → Prop} : ∀ {l : List AOp} {i : Nat} {s : St} {acc : List Rec}, vP E d k v t i l s acc KT → wpT E d i l s (some (k, v, t)) acc KT
  | [], i, s, acc, h => wpT_nil h
  | o :: l, i, s, acc, h => by
    unfold vP at h
    split at h
    · rename_i hf
      exact wpT_free hf ((vO_ok h).mono fun x s' hx => ⟨hx.1, hx.2.1, vP_ok hx.2.2⟩)
    · rename_i hf
      exact wpT_off (by simpa using hf) (vP_ok h)
theorem vT_ok {d : Draw} {KT : Option (Nat × AV × St) → St → List Rec → Prop} : ∀ {l : List AOp} {i : Nat} {s : St} {acc : List Rec}, vT E d i l s acc KT → wpT E d i l s none acc KT
  | [], i, s, acc, h => wpT_nil h
  | o :: l, i, s, acc, h => by
    refine wpT_cons ((vO_ok h).mono fun x s' hx => ?_)
    refine ⟨hx.1, ?_⟩
    cases x <;> first | exact vT_ok hx.2 | exact vP_ok hx.2 | exact hx.2
theorem vC_ok : ∀ {c : ACode} {s : St} {Q : Ex → St → Prop}, vC E c s Q → wpC E c s Q
  | .skip, s, Q, h => wpC_skip h
  | .ret, s, Q, h => wpC_ret h
  | .exit id, s, Q, h => wpC_exit h
  | .region l none, s, Q, h => wpC_region (vS_ok h)
  | .region l (some d), s, Q, h => wpC_draw (vT_ok h)
  | .seq a b, s, Q, h => by
    refine wpC_seq ((vC_ok (c := a) h).mono fun x s' hx => ?_)
    cases x <;> first | exact vC_ok hx | exact hx
  | .cond y a b, s, Q, h => by
    unfold vC isT at h
    split at h
    · rename_i q hq
      refine wpC_cond (b := q) (by rw [eval_opT]; exact hq) ?_
      cases q
      · exact vC_ok (by simpa using h)
      · exact vC_ok (by simpa using h)
    · exact h.elim
  | .block id c, s, Q, h => wpC_block (vC_ok (c := c) h)
  | .loop c, s, Q, h => h
  | .fail, s, Q, h => h.elim
@[go_sem] theorem vS_nil : vS E pan [] s Q ↔ Q .normal s := Iff.rfl
@[go_sem] theorem vS_cons {o : AOp} : vS E pan (o :: l) s Q ↔ vO E pan o s (seqS E pan l Q) := Iff.rfl
@[go_sem] theorem seqS_normal : seqS E pan l Q .normal s ↔ vS E pan l s Q := Iff.rfl
@[go_sem] theorem seqS_panic : seqS E pan l Q (.panic v) s ↔ Q (.panic v) s := Iff.rfl
@[go_sem] theorem vT_nil {dr : Draw} {k : Nat} {acc : List Rec} {KT : Option (Nat × AV × St) → St → List Rec → Prop} : vT E dr k [] s acc KT ↔ KT none s acc.reverse := Iff.rfl
@[go_sem] theorem vT_cons {dr : Draw} {k : Nat} {acc : List Rec} {KT : Option (Nat × AV × St) → St → List Rec → Prop} {o : AOp} : vT E dr k (o :: l) s acc KT ↔ vO E none o s (seqT E dr k l o s acc KT) := Iff.rfl
@[go_sem] theorem seqT_normal {dr : Draw} {k : Nat} {acc : List Rec} {KT : Option (Nat × AV × St) → St → List Rec → Prop} {o : AOp} {s' : St} : seqT E dr k l o s acc KT .normal s' ↔ newOk s s' = true ∧ vT E dr (k + 1) l s' (recOf E o s s' :: acc) KT := Iff.rfl
@[go_sem] theorem seqT_panic {dr : Draw} {k : Nat} {acc : List Rec} {KT : Option (Nat × AV × St) → St → List Rec → Prop} {o : AOp} {s' : St} : seqT E dr k l o s acc KT (.panic v) s' ↔ newOk s s' = true ∧ vP E dr k v s' (k + 1) l s' (recOf E o s s' :: acc) KT := Iff.rfl
@[go_sem] theorem vP_nil {dr : Draw} {k i : Nat} {t' : St} {acc : List Rec} {KT : Option (Nat × AV × St) → St → List Rec → Prop} : vP E dr k v t' i [] s acc KT ↔ KT (some (k, v, t')) s acc.reverse := Iff.rfl
@[go_sem] theorem vP_free {dr : Draw} {k i : Nat} {t' : St} {acc : List Rec} {KT : Option (Nat × AV × St) → St → List Rec → Prop} {o : AOp} (h : (dr.free.getD k []).contains i = true) : vP E dr k v t' i (o :: l) s acc KT ↔ vO E none o s (seqP E dr k v t' i l o s acc KT) := by
  rw [vP, if_pos h]; rfl
@[go_sem] theorem vP_off {dr : Draw} {k i : Nat} {t' : St} {acc : List Rec} {KT : Option (Nat × AV × St) → St → List Rec → Prop} {o : AOp} (h : (dr.free.getD k []).contains i = false) : vP E dr k v t' i (o :: l) s acc KT ↔ vP E dr k v t' (i + 1) l s (⟨false, [], []⟩ :: acc) KT := by
  rw [vP, if_neg (by rw [h]; exact Bool.false_ne_true)]
@[go_sem] theorem seqP_normal {dr : Draw} {k i : Nat} {t' s' : St} {acc : List Rec} {KT : Option (Nat × AV × St) → St → List Rec → Prop} {o : AOp} : seqP E dr k v t' i l o s acc KT .normal s' ↔ newOk s s' = true ∧ vP E dr k v t' (i + 1) l s' (recOf E o s s' :: acc) KT := by simp [seqP]
@[go_sem] theorem vC_skip : vC E .skip s Q ↔ Q .normal s := Iff.rfl
@[go_sem] theorem vC_ret : vC E .ret s Q ↔ Q .ret s := Iff.rfl
@[go_sem] theorem vC_exit {k : Nat} : vC E (.exit k) s Q ↔ Q (.exit k) s := Iff.rfl
@[go_sem] theorem vC_region : vC E (.region l none) s Q ↔ vS E none l s Q := Iff.rfl
@[go_sem] theorem vC_draw {dr : Draw} : vC E (.region l (some dr)) s Q ↔ vT E dr 0 l s [] (drawC l dr Q) := Iff.rfl
@[go_sem] theorem vC_seq : vC E (.seq c1 c2) s Q ↔ vC E c1 s (seqC E c2 Q) := Iff.rfl
@[go_sem] theorem seqC_normal : seqC E c2 Q .normal s ↔ vC E c2 s Q := Iff.rfl
@[go_sem] theorem seqC_ret : seqC E c2 Q .ret s ↔ Q .ret s := Iff.rfl
@[go_sem] theorem seqC_exit {k : Nat} : seqC E c2 Q (.exit k) s ↔ Q (.exit k) s := Iff.rfl
@[go_sem] theorem seqC_panic : seqC E c2 Q (.panic v) s ↔ Q (.panic v) s := Iff.rfl
theorem vC_cond_iff {y : Opnd} : vC E (.cond y c1 c2) s Q ↔ isT (opT E s.tmps y) fun q => if q = true then vC E c1 s Q else vC E c2 s Q := Iff.rfl
@[go_sem] theorem vC_cond_true {y : Opnd} (h : opT E s.tmps y = .bool true) : vC E (.cond y c1 c2) s Q ↔ vC E c1 s Q := by
  rw [vC_cond_iff, h]; simp [isT]
@[go_sem] theorem vC_cond_false {y : Opnd} (h : opT E s.tmps y = .bool false) : vC E (.cond y c1 c2) s Q ↔ vC E c2 s Q := by
  rw [vC_cond_iff, h]; simp [isT]
theorem vC_cond_split {y : Opnd} {b : Bool} (h : opT E s.tmps y = .bool b) (h1 : b = true → vC E c1 s Q) (h2 : b = false → vC E c2 s Q) : vC E (.cond y c1 c2) s Q := by
  rw [vC_cond_iff, h]
  cases b
  · simpa [isT] using h2 rfl
  · simpa [isT] using h1 rfl
@[go_sem] theorem vC_block {k : Nat} : vC E (.block k c1) s Q ↔ vC E c1 s (outC k Q) := Iff.rfl
@[go_sem] theorem vC_loop : vC E (.loop c1) s Q ↔ wpC E (.loop c1) s Q := Iff.rfl
@[go_sem] theorem outC_normal {k : Nat} : outC k Q .normal s ↔ Q .normal s := Iff.rfl
@[go_sem] theorem outC_ret {k : Nat} : outC k Q .ret s ↔ Q .ret s := Iff.rfl
@[go_sem] theorem outC_panic {k : Nat} : outC k Q (.panic v) s ↔ Q (.panic v) s := Iff.rfl
@[go_sem] theorem outC_exit {k : Nat} : outC k Q (.exit k) s ↔ Q .normal s := by simp [outC]
@[go_sem] theorem outC_other {k m : Nat} (h : m ≠ k) : outC k Q (.exit m) s ↔ Q (.exit m) s := by simp [outC, h]
theorem vI_plain {dd : Option Nat} (hp : plainI i = true) : vI E pan dd i ⟨t, H, nx, fz, ds, r⟩ Z ↔ stepK (evalI (opT E t) fz nx H i) (fun v H' nx' => Z .normal (St.put ⟨t, H', nx', fz, ds, r⟩ dd v)) := by
  cases i <;> first | exact Iff.rfl | cases hp
@[go_sem] theorem vO_none {dd : Option Nat} : vO E pan ⟨dd, none, i⟩ s Z ↔ vI E pan dd i s Z := Iff.rfl
theorem vO_guard {dd : Option Nat} {n : Nat} {b : Bool} : vO E pan ⟨dd, some (n, b), i⟩ s Z ↔ (match getT s.tmps n with
    | .bool c => if c = b then vI E pan dd i s Z else Z .normal (s.put dd undefA)
    | .dead => False
    | _ => Z .normal (s.put dd undefA)) := Iff.rfl
@[go_sem] theorem vO_yes {dd : Option Nat} {n : Nat} {b : Bool} (h : getT s.tmps n = .bool b) : vO E pan ⟨dd, some (n, b), i⟩ s Z ↔ vI E pan dd i s Z := by
  rw [vO_guard, h]; simp
@[go_sem] theorem vO_no {dd : Option Nat} {n : Nat} {b : Bool} (h : getT s.tmps n = .bool (!b)) : vO E pan ⟨dd, some (n, b), i⟩ s Z ↔ Z .normal (s.put dd undefA) := by
  rw [vO_guard, h]; cases b <;> simp
@[go_sem] theorem backO_ret {dd : Option Nat} {fz' : List Nat} {q : Bool} : backO t ds r dd Z ⟨.ret v, H', nx', fz', q⟩ ↔ Z .normal (St.put ⟨t, H', nx', fz', ds, r⟩ dd v) := Iff.rfl
@[go_sem] theorem backO_panic {dd : Option Nat} {fz' : List Nat} {q : Bool} : backO t ds r dd Z ⟨.panic v, H', nx', fz', q⟩ ↔ Z (.panic v) ⟨t, H', nx', fz', ds, r⟩ := Iff.rfl
@[go_sem] theorem s_callf {dd : Option Nat} {f : FuncId} {xs : List Opnd} : vI E pan dd (.callf f xs) ⟨t, H, nx, fz, ds, r⟩ Z ↔ wpA E f (xs.map (opT E t)) H nx fz (backO t ds r dd Z) := Iff.rfl
@[go_sem] theorem s_callv {dd : Option Nat} {x : Opnd} {xs : List Opnd} : vI E pan dd (.callv x xs) ⟨t, H, nx, fz, ds, r⟩ Z ↔ vCall E pan (opT E t x) (xs.map (opT E t)) H nx fz (backO t ds r dd Z) := by
  simp only [vI, vCall]
@[go_sem] theorem vCall_func {f : FuncId} {a b xs : List AV} {R : Back → Prop} : vCall E pan (.func f a b) xs H nx fz R ↔ wpA E f (a ++ xs ++ b) H nx fz R := Iff.rfl
@[go_sem] theorem s_panic {dd : Option Nat} {x : Opnd} : vI E pan dd (.panic x) ⟨t, H, nx, fz, ds, r⟩ Z ↔ vPan (opT E t x) (fun v => Z (.panic v) ⟨t, H, nx, fz, ds, r⟩) := by
  simp only [vI, vPan]
@[go_sem] theorem vPan_iface {u : TypeId} {v : AV} {K : AV → Prop} : vPan (.iface u v) K ↔ K (.iface u v) := Iff.rfl
@[go_sem] theorem put_some : St.put ⟨t, H, nx, fz, ds, r⟩ (some d) v = ⟨t.set d v, H, nx, fz, ds, r⟩ := rfl
@[go_sem] theorem put_none' : St.put s none v = s := rfl
variable {dd : Option Nat} {x y z : Opnd}
theorem vI_get (hp : plainI i = true) (h : (evalI (opT E t) fz nx H i).isSome = true) : vI E pan dd i ⟨t, H, nx, fz, ds, r⟩ Z ↔
    Z .normal (St.put ⟨t, ((evalI (opT E t) fz nx H i).getD (undefA, [], 0)).2.1, ((evalI (opT E t) fz nx H i).getD (undefA, [], 0)).2.2, fz, ds, r⟩ dd ((evalI (opT E t) fz nx H i).getD (undefA, [], 0)).1) := by
  rw [vI_plain hp]
  obtain ⟨⟨v, H', nx'⟩, ho⟩ := Option.isSome_iff_exists.1 h
  rw [ho]; exact Iff.rfl
theorem vI_val {o : Option AV} (hp : plainI i = true) (he : evalI (opT E t) fz nx H i = Out.pure H nx o) (h : o.isSome = true) : vI E pan dd i ⟨t, H, nx, fz, ds, r⟩ Z ↔ Z .normal (St.put ⟨t, H, nx, fz, ds, r⟩ dd (o.getD undefA)) := by
  rw [vI_plain hp, he]
  obtain ⟨v, rfl⟩ := Option.isSome_iff_exists.1 h
  exact Iff.rfl
@[go_sem] theorem s_mov : vI E pan dd (.mov x) ⟨t, H, nx, fz, ds, r⟩ Z ↔ Z .normal (St.put ⟨t, H, nx, fz, ds, r⟩ dd (opT E t x)) := vI_plain rfl
@[go_sem] theorem s_bin {op : BinOp} (h : (binA op (opT E t x) (opT E t y)).isSome = true) : vI E pan dd (.bin op x y) ⟨t, H, nx, fz, ds, r⟩ Z ↔ Z .normal (St.put ⟨t, H, nx, fz, ds, r⟩ dd ((binA op (opT E t x) (opT E t y)).getD undefA)) := vI_val rfl rfl h
@[go_sem] theorem s_un {op : UnOp} (h : (unA op (opT E t x)).isSome = true) : vI E pan dd (.un op x) ⟨t, H, nx, fz, ds, r⟩ Z ↔ Z .normal (St.put ⟨t, H, nx, fz, ds, r⟩ dd ((unA op (opT E t x)).getD undefA)) := vI_val rfl rfl h
@[go_sem] theorem s_pick_true {a b c : Opnd} (h : opT E t c = .bool true) : vI E pan dd (.pick c a b) ⟨t, H, nx, fz, ds, r⟩ Z ↔ Z .normal (St.put ⟨t, H, nx, fz, ds, r⟩ dd (opT E t a)) := by
  rw [vI_plain rfl]; simp only [evalI, h, if_true]; exact Iff.rfl
@[go_sem] theorem s_pick_false {a b c : Opnd} (h : opT E t c = .bool false) : vI E pan dd (.pick c a b) ⟨t, H, nx, fz, ds, r⟩ Z ↔ Z .normal (St.put ⟨t, H, nx, fz, ds, r⟩ dd (opT E t b)) := by
  rw [vI_plain rfl]; simp only [evalI, h, Bool.false_eq_true, if_false]; exact Iff.rfl
@[go_sem] theorem s_alloc {e : TypeId} {sz : Nat} {zero : List AV} : vI E pan dd (.alloc e sz zero) ⟨t, H, nx, fz, ds, r⟩ Z ↔ Z .normal (St.put ⟨t, setB H nx (some (.cells e sz zero)), nx + 1, fz, ds, r⟩ dd (.ptr nx 0)) := vI_plain rfl
@[go_sem] theorem s_box {e : TypeId} {sz : Nat} (h : flatL (opT E t x).cells = true) : vI E pan dd (.box e sz x) ⟨t, H, nx, fz, ds, r⟩ Z ↔ Z .normal (St.put ⟨t, setB H nx (some (.cells e sz (opT E t x).cells)), nx + 1, fz, ds, r⟩ dd (.ptr nx 0)) := by
  rw [vI_plain rfl]; simp only [evalI, h, if_true]; exact Iff.rfl
@[go_sem] theorem s_build {zero : List AV} {ps : List (Nat × Nat × Opnd)} (h : (fillA zero (ps.map fun p => (p.1, p.2.1, opT E t p.2.2))).isSome = true) : vI E pan dd (.build zero ps) ⟨t, H, nx, fz, ds, r⟩ Z ↔
    Z .normal (St.put ⟨t, H, nx, fz, ds, r⟩ dd (.agg ((fillA zero (ps.map fun p => (p.1, p.2.1, opT E t p.2.2))).getD []))) := by
  rw [vI_plain rfl]
  have e : evalI (opT E t) fz nx H (.build zero ps) = Out.pure H nx ((fillA zero (ps.map fun p => (p.1, p.2.1, opT E t p.2.2))).map .agg) := rfl
  rw [e]
  obtain ⟨cs, hc⟩ := Option.isSome_iff_exists.1 h
  rw [hc]; exact Iff.rfl
@[go_sem] theorem s_bslice {e : TypeId} {sz n : Nat} {zero : List AV} {ps : List (Nat × Nat × Opnd)} (h : (fillA (repeatA zero n) (ps.map fun p => (p.1, p.2.1, opT E t p.2.2))).isSome = true) (hf : flatL ((fillA (repeatA zero n) (ps.map fun p => (p.1, p.2.1, opT E t p.2.2))).getD []) = true) :
    vI E pan dd (.bslice e sz n zero ps) ⟨t, H, nx, fz, ds, r⟩ Z ↔ Z .normal (St.put ⟨t, setB H nx (some (.cells e sz ((fillA (repeatA zero n) (ps.map fun p => (p.1, p.2.1, opT E t p.2.2))).getD []))), nx + 1, fz, ds, r⟩ dd (.sl nx 0 n)) := by
  rw [vI_plain rfl]
  obtain ⟨cs, hc⟩ := Option.isSome_iff_exists.1 h
  rw [hc] at hf ⊢
  have e : evalI (opT E t) fz nx H (.bslice e sz n zero ps) = if flatL cs then some (.sl nx 0 n, setB H nx (some (.cells e sz cs)), nx + 1) else none := by
    have e2 : (ps.map fun p => (p.1, p.2.1, opT E t p.2.2)) = ps.map fun (o, s, x) => (o, s, opT E t x) := rfl
    rw [e2] at hc
    simp only [evalI, hc]
  rw [e, if_pos (by simpa using hf)]; exact Iff.rfl
@[go_sem] theorem s_load {agg : Bool} {n : Nat} (h : ((cellsAt H (opT E t x)).bind fun cs => partA agg cs 0 n).isSome = true) : vI E pan dd (.load agg n x) ⟨t, H, nx, fz, ds, r⟩ Z ↔ Z .normal (St.put ⟨t, H, nx, fz, ds, r⟩ dd (((cellsAt H (opT E t x)).bind fun cs => partA agg cs 0 n).getD undefA)) := by
  refine vI_val rfl ?_ h
  simp only [evalI]
  cases cellsAt H (opT E t x) <;> rfl
def storeH (H : Heap) (fz : List Nat) (n : Nat) (a v : AV) : Option Heap := match a with
  | .ptr b off => match getB H b with
    | some (.cells e s cs) => if v.cells.length = n ∧ off + n ≤ cs.length ∧ fz.contains b = false ∧ flatL v.cells = true then some (setB H b (some (.cells e s (cs.take off ++ v.cells ++ cs.drop (off + n))))) else none
    | _ => none
  | _ => none
@[go_sem] theorem s_store {n : Nat} (h : (storeH H fz n (opT E t x) (opT E t y)).isSome = true) : vI E pan none (.store n x y) ⟨t, H, nx, fz, ds, r⟩ Z ↔ Z .normal ⟨t, (storeH H fz n (opT E t x) (opT E t y)).getD [], nx, fz, ds, r⟩ := by
  have e : evalI (opT E t) fz nx H (.store n x y) = (storeH H fz n (opT E t x) (opT E t y)).map fun H' => (undefA, H', nx) := by
    simp only [evalI, storeH]
    cases opT E t x <;> try rfl
    rename_i b off
    simp only
    cases getB H b with
    | none => rfl
    | some blk =>
      cases blk with
      | map ks vs => rfl
      | cells e s cs => simp only; split <;> rfl
  rw [vI_plain rfl, e]
  obtain ⟨H', hH⟩ := Option.isSome_iff_exists.1 h
  rw [hH]; exact Iff.rfl
@[go_sem] theorem s_eqnil {k : Nat} {neg : Bool} (h : (eqnilA k (opT E t x)).isSome = true) : vI E pan dd (.eqnil k neg x) ⟨t, H, nx, fz, ds, r⟩ Z ↔ Z .normal (St.put ⟨t, H, nx, fz, ds, r⟩ dd (.bool (if neg then !((eqnilA k (opT E t x)).getD false) else (eqnilA k (opT E t x)).getD false))) := by
  rw [vI_plain rfl]
  obtain ⟨b, hb⟩ := Option.isSome_iff_exists.1 h
  simp only [evalI, hb]
  exact Iff.rfl
@[go_sem] theorem s_mkif {u : TypeId} : vI E pan dd (.mkif u x) ⟨t, H, nx, fz, ds, r⟩ Z ↔ Z .normal (St.put ⟨t, H, nx, fz, ds, r⟩ dd (.iface u (opT E t x))) := vI_plain rfl
@[go_sem] theorem s_mkfn {f : FuncId} {a b : List Opnd} : vI E pan dd (.mkfn f a b) ⟨t, H, nx, fz, ds, r⟩ Z ↔ Z .normal (St.put ⟨t, H, nx, fz, ds, r⟩ dd (.func f (a.map (opT E t)) (b.map (opT E t)))) := vI_plain rfl
@[go_sem] theorem s_mkmap : vI E pan dd .mkmap ⟨t, H, nx, fz, ds, r⟩ Z ↔ Z .normal (St.put ⟨t, setB H nx (some (.map [] [])), nx + 1, fz, ds, r⟩ dd (.map nx)) := vI_plain rfl
def valI (E : Env) (t : List AV) (fz : List Nat) (nx : Nat) (H : Heap) (i : Insn) : Option AV := (evalI (opT E t) fz nx H i).map (·.1)
def keepsI : Insn → Bool
  | .nilchk _ | .eqbool .. | .eqagg .. | .conv .. | .slice .. | .faddr .. | .field .. | .iaddr .. | .iaddra .. | .index .. | .indexa .. | .lookup .. | .tassert .. | .extract .. | .len .. | .cap _ | .minmax .. => true
  | _ => false
theorem keeps_ok {ρ : Opnd → AV} {v : AV} (hk : keepsI i = true) (h : evalI ρ fz nx H i = some (v, H', nx')) : H' = H ∧ nx' = nx := by
  have hp : ∀ {o : Option AV}, Out.pure H nx o = some (v, H', nx') → H' = H ∧ nx' = nx := fun {o} h => by
    obtain ⟨u, _, h⟩ := Option.map_eq_some_iff.1 h
    cases h; exact ⟨rfl, rfl⟩
  cases i <;> first | (cases hk; done) | skip
  all_goals
    simp only [evalI] at h
    first
      | exact hp h
      | (cases h; exact ⟨rfl, rfl⟩)
      | (repeat' split at h
         all_goals first
           | (cases h; done)
           | exact hp h
           | (cases h; exact ⟨rfl, rfl⟩))
theorem s_keeps (hk : keepsI i = true) (h : (valI E t fz nx H i).isSome = true) : vI E pan dd i ⟨t, H, nx, fz, ds, r⟩ Z ↔ Z .normal (St.put ⟨t, H, nx, fz, ds, r⟩ dd ((valI E t fz nx H i).getD undefA)) := by
  have hp : plainI i = true := by cases i <;> first | rfl | cases hk
  rw [vI_plain hp]
  unfold valI at h ⊢
  cases he : evalI (opT E t) fz nx H i with
  | none => rw [he] at h; cases h
  | some o =>
    obtain ⟨v, H', nx'⟩ := o
    obtain ⟨rfl, rfl⟩ := keeps_ok hk he
    exact Iff.rfl
@[go_sem] theorem s_nilchk (h : (valI E t fz nx H (.nilchk x)).isSome = true) : vI E pan dd (.nilchk x) ⟨t, H, nx, fz, ds, r⟩ Z ↔ Z .normal (St.put ⟨t, H, nx, fz, ds, r⟩ dd ((valI E t fz nx H (.nilchk x)).getD undefA)) := s_keeps rfl h
@[go_sem] theorem s_eqbool {neg : Bool} (h : (valI E t fz nx H (.eqbool neg x y)).isSome = true) : vI E pan dd (.eqbool neg x y) ⟨t, H, nx, fz, ds, r⟩ Z ↔ Z .normal (St.put ⟨t, H, nx, fz, ds, r⟩ dd ((valI E t fz nx H (.eqbool neg x y)).getD undefA)) := s_keeps rfl h
@[go_sem] theorem s_eqagg {neg : Bool} (h : (valI E t fz nx H (.eqagg neg x y)).isSome = true) : vI E pan dd (.eqagg neg x y) ⟨t, H, nx, fz, ds, r⟩ Z ↔ Z .normal (St.put ⟨t, H, nx, fz, ds, r⟩ dd ((valI E t fz nx H (.eqagg neg x y)).getD undefA)) := s_keeps rfl h
@[go_sem] theorem s_conv {k : CK} (h : (valI E t fz nx H (.conv k x)).isSome = true) : vI E pan dd (.conv k x) ⟨t, H, nx, fz, ds, r⟩ Z ↔ Z .normal (St.put ⟨t, H, nx, fz, ds, r⟩ dd ((valI E t fz nx H (.conv k x)).getD undefA)) := s_keeps rfl h
@[go_sem] theorem s_slice {str : Bool} {sz : Nat} {lo hi : Option Opnd} (h : (valI E t fz nx H (.slice str sz x lo hi)).isSome = true) : vI E pan dd (.slice str sz x lo hi) ⟨t, H, nx, fz, ds, r⟩ Z ↔ Z .normal (St.put ⟨t, H, nx, fz, ds, r⟩ dd ((valI E t fz nx H (.slice str sz x lo hi)).getD undefA)) := s_keeps rfl h
@[go_sem] theorem s_faddr {o : Nat} (h : (valI E t fz nx H (.faddr o x)).isSome = true) : vI E pan dd (.faddr o x) ⟨t, H, nx, fz, ds, r⟩ Z ↔ Z .normal (St.put ⟨t, H, nx, fz, ds, r⟩ dd ((valI E t fz nx H (.faddr o x)).getD undefA)) := s_keeps rfl h
@[go_sem] theorem s_field {agg : Bool} {o n : Nat} (h : (valI E t fz nx H (.field agg o n x)).isSome = true) : vI E pan dd (.field agg o n x) ⟨t, H, nx, fz, ds, r⟩ Z ↔ Z .normal (St.put ⟨t, H, nx, fz, ds, r⟩ dd ((valI E t fz nx H (.field agg o n x)).getD undefA)) := s_keeps rfl h
@[go_sem] theorem s_iaddr {sz : Nat} (h : (valI E t fz nx H (.iaddr sz x y)).isSome = true) : vI E pan dd (.iaddr sz x y) ⟨t, H, nx, fz, ds, r⟩ Z ↔ Z .normal (St.put ⟨t, H, nx, fz, ds, r⟩ dd ((valI E t fz nx H (.iaddr sz x y)).getD undefA)) := s_keeps rfl h
@[go_sem] theorem s_iaddra {n sz : Nat} (h : (valI E t fz nx H (.iaddra n sz x y)).isSome = true) : vI E pan dd (.iaddra n sz x y) ⟨t, H, nx, fz, ds, r⟩ Z ↔ Z .normal (St.put ⟨t, H, nx, fz, ds, r⟩ dd ((valI E t fz nx H (.iaddra n sz x y)).getD undefA)) := s_keeps rfl h
@[go_sem] theorem s_index (h : (valI E t fz nx H (.index x y)).isSome = true) : vI E pan dd (.index x y) ⟨t, H, nx, fz, ds, r⟩ Z ↔ Z .normal (St.put ⟨t, H, nx, fz, ds, r⟩ dd ((valI E t fz nx H (.index x y)).getD undefA)) := s_keeps rfl h
@[go_sem] theorem s_indexa {agg : Bool} {sz n : Nat} (h : (valI E t fz nx H (.indexa agg sz n x y)).isSome = true) : vI E pan dd (.indexa agg sz n x y) ⟨t, H, nx, fz, ds, r⟩ Z ↔ Z .normal (St.put ⟨t, H, nx, fz, ds, r⟩ dd ((valI E t fz nx H (.indexa agg sz n x y)).getD undefA)) := s_keeps rfl h
@[go_sem] theorem s_lookup {k : Nat} {zero : AV} {ok : Bool} (h : (valI E t fz nx H (.lookup k zero ok x y)).isSome = true) : vI E pan dd (.lookup k zero ok x y) ⟨t, H, nx, fz, ds, r⟩ Z ↔ Z .normal (St.put ⟨t, H, nx, fz, ds, r⟩ dd ((valI E t fz nx H (.lookup k zero ok x y)).getD undefA)) := s_keeps rfl h
@[go_sem] theorem s_tassert {u : TypeId} {ok : Bool} {zero : AV} (h : (valI E t fz nx H (.tassert u ok zero x)).isSome = true) : vI E pan dd (.tassert u ok zero x) ⟨t, H, nx, fz, ds, r⟩ Z ↔ Z .normal (St.put ⟨t, H, nx, fz, ds, r⟩ dd ((valI E t fz nx H (.tassert u ok zero x)).getD undefA)) := s_keeps rfl h
@[go_sem] theorem s_extract {n : Nat} (h : (valI E t fz nx H (.extract x n)).isSome = true) : vI E pan dd (.extract x n) ⟨t, H, nx, fz, ds, r⟩ Z ↔ Z .normal (St.put ⟨t, H, nx, fz, ds, r⟩ dd ((valI E t fz nx H (.extract x n)).getD undefA)) := s_keeps rfl h
@[go_sem] theorem s_len {k : Nat} (h : (valI E t fz nx H (.len k x)).isSome = true) : vI E pan dd (.len k x) ⟨t, H, nx, fz, ds, r⟩ Z ↔ Z .normal (St.put ⟨t, H, nx, fz, ds, r⟩ dd ((valI E t fz nx H (.len k x)).getD undefA)) := s_keeps rfl h
@[go_sem] theorem s_cap (h : (valI E t fz nx H (.cap x)).isSome = true) : vI E pan dd (.cap x) ⟨t, H, nx, fz, ds, r⟩ Z ↔ Z .normal (St.put ⟨t, H, nx, fz, ds, r⟩ dd ((valI E t fz nx H (.cap x)).getD undefA)) := s_keeps rfl h
@[go_sem] theorem s_minmax {mx : Bool} {xs : List Opnd} (h : (valI E t fz nx H (.minmax mx xs)).isSome = true) : vI E pan dd (.minmax mx xs) ⟨t, H, nx, fz, ds, r⟩ Z ↔ Z .normal (St.put ⟨t, H, nx, fz, ds, r⟩ dd ((valI E t fz nx H (.minmax mx xs)).getD undefA)) := s_keeps rfl h
def outI (E : Env) (t : List AV) (fz : List Nat) (nx : Nat) (H : Heap) (i : Insn) : Out := evalI (opT E t) fz nx H i
@[go_sem] theorem s_insert {k : Nat} (h : (outI E t fz nx H (.insert k x y z)).isSome = true) : vI E pan none (.insert k x y z) ⟨t, H, nx, fz, ds, r⟩ Z ↔ Z .normal ⟨t, ((outI E t fz nx H (.insert k x y z)).getD (undefA, [], 0)).2.1, ((outI E t fz nx H (.insert k x y z)).getD (undefA, [], 0)).2.2, fz, ds, r⟩ := vI_get rfl h
@[go_sem] theorem s_mkslice {e : TypeId} {sz by' : Nat} {zero : List AV} (h : (outI E t fz nx H (.mkslice e sz by' zero x y)).isSome = true) : vI E pan dd (.mkslice e sz by' zero x y) ⟨t, H, nx, fz, ds, r⟩ Z ↔
    Z .normal (St.put ⟨t, ((outI E t fz nx H (.mkslice e sz by' zero x y)).getD (undefA, [], 0)).2.1, ((outI E t fz nx H (.mkslice e sz by' zero x y)).getD (undefA, [], 0)).2.2, fz, ds, r⟩ dd ((outI E t fz nx H (.mkslice e sz by' zero x y)).getD (undefA, [], 0)).1) := vI_get rfl h
@[go_sem] theorem s_append {e : TypeId} {sz by' : Nat} (h : (outI E t fz nx H (.append e sz by' x y)).isSome = true) : vI E pan dd (.append e sz by' x y) ⟨t, H, nx, fz, ds, r⟩ Z ↔
    Z .normal (St.put ⟨t, ((outI E t fz nx H (.append e sz by' x y)).getD (undefA, [], 0)).2.1, ((outI E t fz nx H (.append e sz by' x y)).getD (undefA, [], 0)).2.2, fz, ds, r⟩ dd ((outI E t fz nx H (.append e sz by' x y)).getD (undefA, [], 0)).1) := vI_get rfl h
@[go_sem] theorem s_appendz {e : TypeId} {sz by' : Nat} {zero : List AV} (h : (outI E t fz nx H (.appendz e sz by' zero x y)).isSome = true) : vI E pan dd (.appendz e sz by' zero x y) ⟨t, H, nx, fz, ds, r⟩ Z ↔
    Z .normal (St.put ⟨t, ((outI E t fz nx H (.appendz e sz by' zero x y)).getD (undefA, [], 0)).2.1, ((outI E t fz nx H (.appendz e sz by' zero x y)).getD (undefA, [], 0)).2.2, fz, ds, r⟩ dd ((outI E t fz nx H (.appendz e sz by' zero x y)).getD (undefA, [], 0)).1) := vI_get rfl h
@[go_sem] theorem s_copy {sz : Nat} (h : (outI E t fz nx H (.copy sz x y)).isSome = true) : vI E pan dd (.copy sz x y) ⟨t, H, nx, fz, ds, r⟩ Z ↔
    Z .normal (St.put ⟨t, ((outI E t fz nx H (.copy sz x y)).getD (undefA, [], 0)).2.1, ((outI E t fz nx H (.copy sz x y)).getD (undefA, [], 0)).2.2, fz, ds, r⟩ dd ((outI E t fz nx H (.copy sz x y)).getD (undefA, [], 0)).1) := vI_get rfl h
end
end Go.Am
end
section
namespace Go.Am
open Go
def At (E : Env) (f : FuncId) (fn : AFn) : Prop := E.hprim f = none ∧ E.prim f = none ∧ E.code f = some fn
def leaveV (E : Env) (rs : List ARes) (R : Back → Prop) (x : Ex) (s : St) : Prop :=
  match x.out with
  | some m => match s.defers, m with
    | [], none => optK (resultsA rs s.tmps s.H) fun v => R ⟨.ret v, s.H, s.nx, s.fz, false⟩
    | [], some v => R ⟨.panic v, s.H, s.nx, s.fz, false⟩
    | ds, m => wpL E rs s.tmps ds m s.H s.nx s.fz R
  | none => False
def retV (v : AV) (b : Back) : Prop := match b.res with
  | .ret u => frz b.H (depthOf b.nx) u = some v
  | .panic _ => False
def panV (v : AV) (b : Back) : Prop := match b.res with
  | .ret _ => False
  | .panic u => frz b.H (depthOf b.nx) u = some v
section
variable {E : Env} {t : List AV} {H H' : Heap} {nx nx' : Nat} {fz : List Nat} {ds : List (FuncId × List AV)} {r : Bool} {n d : Nat} {v u : AV} {R : Back → Prop} {rs : List ARes} {f : FuncId} {a : List AV} {fn : AFn} {s s' : St}
theorem leaveV_ok {x : Ex} (h : leaveV E rs R x s) : leaveC E rs R x s := by
  unfold leaveV at h
  unfold leaveC
  cases hx : x.out with
  | none => rw [hx] at h; exact h
  | some m =>
    rw [hx] at h
    simp only at h ⊢
    split at h
    · rename_i hd
      rw [hd]
      cases hr : resultsA rs s.tmps s.H with
      | none => rw [hr] at h; exact h.elim
      | some v => rw [hr] at h; exact wpL_nil hr h
    · rename_i v hd
      rw [hd]
      exact wpL_panic h
    · exact h
@[go_sem] theorem leaveV_ret : leaveV E rs R .ret ⟨t, H, nx, fz, [], r⟩ ↔ optK (resultsA rs t H) fun v => R ⟨.ret v, H, nx, fz, false⟩ := Iff.rfl
@[go_sem] theorem leaveV_normal : leaveV E rs R .normal ⟨t, H, nx, fz, [], r⟩ ↔ optK (resultsA rs t H) fun v => R ⟨.ret v, H, nx, fz, false⟩ := Iff.rfl
@[go_sem] theorem leaveV_panic : leaveV E rs R (.panic v) ⟨t, H, nx, fz, [], r⟩ ↔ R ⟨.panic v, H, nx, fz, false⟩ := Iff.rfl
@[go_sem] theorem retV_ret {q : Bool} : retV v ⟨.ret u, H, nx, fz, q⟩ ↔ frz H (depthOf nx) u = some v := Iff.rfl
@[go_sem] theorem retV_panic {q : Bool} : retV v ⟨.panic u, H, nx, fz, q⟩ ↔ False := Iff.rfl
@[go_sem] theorem panV_ret {q : Bool} : panV v ⟨.ret u, H, nx, fz, q⟩ ↔ False := Iff.rfl
@[go_sem] theorem panV_panic {q : Bool} : panV v ⟨.panic u, H, nx, fz, q⟩ ↔ frz H (depthOf nx) u = some v := Iff.rfl
theorem wpF_v {N : Nat} {hp : Bool} {body : ACode} (hf : E.code f = some fn) (hfn : fn = ⟨N, rs, hp, body⟩) (ha : a.length ≤ N)
    (h : ∀ T : List AV, T.length = N → (∀ (i : Nat) (x : AV), a[i]? = some x → getT T i = x) → vC E body ⟨T, H, nx, fz, [], false⟩ (leaveV E rs R)) : wpF E f a H nx fz R :=
  wpF_fn hf hfn ha fun T h1 h2 => (vC_ok (h T h1 h2)).mono fun _ _ => leaveV_ok
theorem val_fn {N : Nat} {body : ACode} (hA : At E f fn) (hfn : fn = ⟨N, rs, false, body⟩) (ha : a.length ≤ N)
    (h : ∀ T : List AV, T.length = N → (∀ (i : Nat) (x : AV), a[i]? = some x → getT T i = x) → vC E body ⟨T, [], 0, [], [], false⟩ (leaveV E rs (retV v))) : Val E f a v :=
  val_of hA.1 hA.2.1 hA.2.2 (by rw [hfn]) ((wpF_v hA.2.2 hfn ha h).mono fun b hb => by
    unfold retV at hb
    split at hb
    · rename_i u hu; exact ⟨u, hu, hb⟩
    · exact hb.elim)
theorem pan_fn {N : Nat} {body : ACode} (hA : At E f fn) (hfn : fn = ⟨N, rs, false, body⟩) (ha : a.length ≤ N)
    (h : ∀ T : List AV, T.length = N → (∀ (i : Nat) (x : AV), a[i]? = some x → getT T i = x) → vC E body ⟨T, [], 0, [], [], false⟩ (leaveV E rs (panV v))) : Does E f a (.panic v) :=
  pan_of hA.1 hA.2.1 hA.2.2 (by rw [hfn]) ((wpF_v hA.2.2 hfn ha h).mono fun b hb => by
    unfold panV at hb
    split at hb
    · exact hb.elim
    · rename_i u hu; exact ⟨u, hu, hb⟩)
def nextV (I : Nat → List AV → Heap → Nat → List Nat → Prop) (m : Nat) (ds : List (FuncId × List AV)) (r : Bool) (Q : Ex → St → Prop) : Ex → St → Prop
  | .normal, s => ∃ m', m' < m ∧ I m' s.tmps s.H s.nx s.fz ∧ s.defers = ds ∧ s.recd = r
  | x, s => Q x s
@[go_sem] theorem nextV_normal {I : Nat → List AV → Heap → Nat → List Nat → Prop} {m : Nat} {Q : Ex → St → Prop} : nextV I m ds r Q .normal ⟨t, H, nx, fz, ds, r⟩ ↔ ∃ m', m' < m ∧ I m' t H nx fz := by simp [nextV]
@[go_sem] theorem nextV_exit {I : Nat → List AV → Heap → Nat → List Nat → Prop} {m k : Nat} {Q : Ex → St → Prop} : nextV I m ds r Q (.exit k) s ↔ Q (.exit k) s := Iff.rfl
@[go_sem] theorem nextV_ret {I : Nat → List AV → Heap → Nat → List Nat → Prop} {m : Nat} {Q : Ex → St → Prop} : nextV I m ds r Q .ret s ↔ Q .ret s := Iff.rfl
@[go_sem] theorem nextV_panic {I : Nat → List AV → Heap → Nat → List Nat → Prop} {m : Nat} {Q : Ex → St → Prop} : nextV I m ds r Q (.panic v) s ↔ Q (.panic v) s := Iff.rfl
theorem loop_v {c : ACode} {Q : Ex → St → Prop} (W : List Nat) (hW : dstsC c = W) (I : Nat → List AV → Heap → Nat → List Nat → Prop) (m0 : Nat) (h0 : I m0 t H nx fz)
    (step : ∀ m t' H' nx' fz', I m t' H' nx' fz' → Fix W t t' → vC E c ⟨t', H', nx', fz', ds, r⟩ (nextV I m ds r Q)) : wpC E (.loop c) ⟨t, H, nx, fz, ds, r⟩ Q := by
  refine wpC_loop_fix W hW (fun m s => I m s.tmps s.H s.nx s.fz ∧ s.defers = ds ∧ s.recd = r) (m0 := m0) ⟨h0, rfl, rfl⟩ fun m s ⟨h1, h2, h3⟩ hF => ?_
  obtain ⟨t', H', nx', fz', ds', r'⟩ := s
  simp only at h2 h3
  subst h2
  subst h3
  refine (vC_ok (step m t' H' nx' fz' h1 hF)).mono fun x s' hx => ?_
  cases x with
  | normal => obtain ⟨m', hm, h4, h5, h6⟩ := hx; exact ⟨m', hm, h4, h5, h6⟩
  | exit k => exact hx
  | ret => exact hx
  | panic v => exact hx
@[go_sem] theorem frz_bool {b : Bool} : frz H (n + 1) (.bool b) = some (.bool b) := rfl
@[go_sem] theorem frz_int {k : IntKind} {x : Int} : frz H (n + 1) (.int k x) = some (.int k x) := rfl
@[go_sem] theorem frz_str {x : List UInt8} : frz H (n + 1) (.str x) = some (.str x) := rfl
@[go_sem] theorem frz_row {m : Nat} {cs : List AV} : frz H (n + 1) (.row m cs) = some (.row m cs) := rfl
@[go_sem] theorem frz_sp {cs : List AV} : frz H (n + 1) (.sp cs) = some (.sp cs) := rfl
@[go_sem] theorem frz_nils : frz H (n + 1) .nils = some (.row 0 []) := rfl
@[go_sem] theorem frz_nilp : frz H (n + 1) .nilp = some .nilp := rfl
@[go_sem] theorem frz_nilm : frz H (n + 1) .nilm = some .nilm := rfl
@[go_sem] theorem frz_nilf : frz H (n + 1) .nilf = some .nilf := rfl
@[go_sem] theorem frz_nili : frz H (n + 1) .nili = some .nili := rfl
@[go_sem] theorem frz_fmap {a b : List AV} : frz H (n + 1) (.fmap a b) = some (.fmap a b) := rfl
@[go_sem] theorem frz_agg {cs : List AV} : frz H (n + 1) (.agg cs) = (cs.mapM (frz H n)).map .agg := rfl
@[go_sem] theorem frz_tuple {cs : List AV} : frz H (n + 1) (.tuple cs) = (cs.mapM (frz H n)).map .tuple := rfl
@[go_sem] theorem frz_iface {ty : TypeId} {x : AV} : frz H (n + 1) (.iface ty x) = (frz H n x).map (.iface ty) := rfl
@[go_sem] theorem frz_func {g : FuncId} {a b : List AV} : frz H (n + 1) (.func g a b) = (match a.mapM (frz H n), b.mapM (frz H n) with
    | some a, some b => some (.func g a b)
    | _, _ => none) := rfl
theorem frz_sl {b o m : Nat} {e : TypeId} {sz : Nat} {cs : List AV} (h : getB H b = some (.cells e sz cs)) : frz H (n + 1) (.sl b o m) = if o + m * sz ≤ cs.length then (((cs.drop o).take (m * sz)).mapM (frz H n)).map (.row m) else none := by
  simp only [frz, h]
theorem frz_ptr {b o : Nat} {e : TypeId} {sz : Nat} {cs : List AV} (h : getB H b = some (.cells e sz cs)) : frz H (n + 1) (.ptr b o) = ((cs.drop o).mapM (frz H n)).map .sp := by
  simp only [frz, h]
@[go_sem] theorem depthOf_eq : depthOf nx = (2 * nx + 5) + 1 := rfl
theorem mapM_self {g : AV → Option AV} : ∀ {l : List AV}, (∀ x ∈ l, g x = some x) → l.mapM g = some l
  | [], _ => rfl
  | x :: l, h => by
    rw [List.mapM_cons, h x (by simp), mapM_self fun y hy => h y (by simp [hy])]; rfl
theorem frz_ints {k : IntKind} {l : List Nat} : (ints k l).mapM (frz H (n + 1)) = some (ints k l) := mapM_self fun x hx => by
  obtain ⟨y, _, rfl⟩ := List.mem_map.1 hx; rfl
@[go_sem] theorem mapM_frz_nil : ([] : List AV).mapM (frz H n) = some [] := rfl
@[go_sem] theorem mapM_frz_cons {x : AV} {l : List AV} : (x :: l).mapM (frz H n) = (match frz H n x, l.mapM (frz H n) with | some y, some r => some (y :: r) | _, _ => none) := by
  rw [List.mapM_cons]
  cases frz H n x with
  | none => rfl
  | some y => cases l.mapM (frz H n) <;> rfl
def closedV : AV → Bool
  | .bool _ | .int _ _ | .str _ | .nilp | .sp _ | .row _ _ | .nilm | .fmap _ _ | .nilf | .nili => true
  | _ => false
def closedL (l : List AV) : Bool := l.all fun
  | .agg cs => cs.all closedV
  | .iface _ x => closedV x
  | .tuple cs => cs.all closedV
  | .func _ a b => a.all closedV && b.all closedV
  | v => closedV v
theorem closedV_frz {x : AV} (h : closedV x = true) : frz H (n + 1) x = some x ∧ tch H (n + 1) x = [] := by
  cases x <;> simp [closedV] at h <;> exact ⟨rfl, rfl⟩
theorem closedVs {l : List AV} (h : l.all closedV = true) : l.mapM (frz H (n + 1)) = some l ∧ l.flatMap (tch H (n + 1)) = [] := by
  have := List.all_eq_true.1 h
  refine ⟨mapM_self fun x hx => (closedV_frz (this x hx)).1, ?_⟩
  rw [List.flatMap_eq_nil_iff]
  exact fun x hx => (closedV_frz (this x hx)).2
theorem closedL_frz {l : List AV} (h : closedL l = true) : l.mapM (frz H (n + 2)) = some l ∧ l.flatMap (tch H (n + 2)) = [] := by
  have key : ∀ x ∈ l, frz H (n + 2) x = some x ∧ tch H (n + 2) x = [] := fun x hx => by
    have := List.all_eq_true.1 h x hx
    cases x <;> simp only at this
    case agg cs => obtain ⟨h1, h2⟩ := closedVs (H := H) (n := n) this; exact ⟨by rw [frz_agg, h1]; rfl, h2⟩
    case tuple cs => obtain ⟨h1, h2⟩ := closedVs (H := H) (n := n) this; exact ⟨by rw [frz_tuple, h1]; rfl, h2⟩
    case iface u y => obtain ⟨h1, h2⟩ := closedV_frz (H := H) (n := n) this; exact ⟨by rw [frz_iface, h1]; rfl, h2⟩
    case func g a b =>
      rw [Bool.and_eq_true] at this
      obtain ⟨h1, h2⟩ := closedVs (H := H) (n := n) this.1
      obtain ⟨h3, h4⟩ := closedVs (H := H) (n := n) this.2
      exact ⟨by rw [frz_func, h1, h3], by show a.flatMap (tch H (n + 1)) ++ b.flatMap (tch H (n + 1)) = []; rw [h2, h4]; rfl⟩
    all_goals first
      | exact closedV_frz this
      | (simp [closedV] at this; done)
  refine ⟨mapM_self fun x hx => (key x hx).1, ?_⟩
  rw [List.flatMap_eq_nil_iff]
  exact fun x hx => (key x hx).2
theorem fzOf_nil : fzOf [] fz v = fz := by unfold fzOf; split <;> rfl
theorem wpA_does {res : Res} (hv : Does E f a res) (hc : closedL a = true) (h : R ⟨res, H, nx, fz, false⟩) : wpA E f a H nx fz R := by
  obtain ⟨h1, h2⟩ := closedL_frz (H := H) (n := 2 * nx + 4) hc
  refine ⟨_, h, hv.2.2.mono fun k hk => ?_⟩
  have := callA_does (E := E) (fz := fz) (H := H) (nx := nx) hv.1 hv.2.1 h1 hk
  rw [this]
  have e : a.flatMap (tch H (depthOf nx)) = [] := h2
  rw [e, fzOf_nil]
theorem wpA_iff {res : Res} (hv : Does E f a res) (hc : closedL a = true) : wpA E f a H nx fz R ↔ R ⟨res, H, nx, fz, false⟩ := by
  refine ⟨fun h => ?_, wpA_does hv hc⟩
  obtain ⟨b, hb, h1⟩ := h
  obtain ⟨b2, rfl, h2⟩ := wpA_does (R := fun b => b = ⟨res, H, nx, fz, false⟩) hv hc rfl
  obtain ⟨n, hn⟩ := h1.and h2
  obtain ⟨h3, h4⟩ := hn n (Nat.le_refl _)
  rw [h3] at h4
  cases h4
  exact hb
def resV : Res → AV
  | .ret v => v
  | .panic v => v
theorem wpA_frz_iff {args : List AV} {res : Res} (hv : Does E f a res) (hfr : args.mapM (frz H (depthOf nx)) = some a) : wpA E f args H nx fz R ↔ R ⟨res, H, nx, fzOf (args.flatMap (tch H (depthOf nx))) fz (resV res), false⟩ := by
  have key : Evt fun k => callA E (evalFn E k) f args H nx fz = some ⟨res, H, nx, fzOf (args.flatMap (tch H (depthOf nx))) fz (resV res), false⟩ := hv.2.2.mono fun k hk => by
    rw [callA_does hv.1 hv.2.1 hfr hk]
    cases res <;> rfl
  constructor
  · rintro ⟨b, hb, h1⟩
    obtain ⟨n, hn⟩ := h1.and key
    obtain ⟨h3, h4⟩ := hn n (Nat.le_refl _)
    rw [h3] at h4
    cases h4
    exact hb
  · exact fun h => ⟨_, h, key⟩
theorem frz_sl_ints {b o m : Nat} {e : TypeId} {k : IntKind} {l : List Nat} (h : getB H b = some (.cells e 1 (ints k l))) (hl : o + m ≤ l.length) : frz H (n + 2) (.sl b o m) = some (.row m (ints k ((l.drop o).take m))) := by
  rw [frz_sl h, Nat.mul_one, if_pos (by rw [ints_len]; exact hl), ints_drop, ints_take, frz_ints]; rfl
theorem frz_sli {b o m d : Nat} {e : TypeId} {k : IntKind} {l : List Nat} (h : getB H b = some (.cells e 1 (ints k l))) (hd : 2 ≤ d) (hl : o + m ≤ l.length) : frz H d (.sl b o m) = some (.row m (ints k ((l.drop o).take m))) := by
  obtain ⟨n, rfl⟩ : ∃ n, d = n + 2 := ⟨d - 2, by omega⟩
  exact frz_sl_ints h hl
end
end Go.Am
end
section
namespace Go.Am
open Go Go.Nt
attribute [go_sem] valI outI storeH binA cmpInt binStr unA minmaxA foldMM AV.cells flatL AV.flat AV.isDead evalI cellsAt getB_setB resultsA resA getT_set_ne getT_set_self len_set fillA repeatA eqnilA idx rowOf lenA room
attribute [go_sem] eval_tmp eval_const drawC recOf footOf writesOf span apartR disjointB topOf newOk
attribute [go_sem] ints_len Int.ofNat_inj ints_replicate Nat.add_one_le_iff
section
variable {H : Heap} {x y : Option Blk} {n : Nat}
@[go_sem] theorem setB_nil_zero : setB [] 0 x = [x] := rfl
@[go_sem] theorem setB_nil_succ : setB [] (n + 1) x = none :: setB [] n x := rfl
@[go_sem] theorem setB_cons_zero : setB (y :: H) 0 x = x :: H := rfl
@[go_sem] theorem setB_cons_succ : setB (y :: H) (n + 1) x = y :: setB H n x := rfl
@[go_sem] theorem getB_cons_zero : getB (y :: H) 0 = y := rfl
@[go_sem] theorem getB_cons_succ : getB (y :: H) (n + 1) = getB H n := rfl
end
section
variable {k : IntKind} {x y : Int}
@[go_sem] theorem bI_add : binInt .add k x y = some (.int k (k.wrap (x + y))) := rfl
@[go_sem] theorem bI_sub : binInt .sub k x y = some (.int k (k.wrap (x - y))) := rfl
@[go_sem] theorem bI_mul : binInt .mul k x y = some (.int k (k.wrap (x * y))) := rfl
@[go_sem] theorem bI_quo (h : y ≠ 0) : binInt .quo k x y = some (.int k (k.wrap (x.tdiv y))) := by simp [binInt, h]
@[go_sem] theorem bI_rem (h : y ≠ 0) : binInt .rem k x y = some (.int k (x.tmod y)) := by simp [binInt, h]
@[go_sem] theorem bI_eql : binInt .eql k x y = some (.bool (x == y)) := rfl
@[go_sem] theorem bI_neq : binInt .neq k x y = some (.bool (x != y)) := rfl
@[go_sem] theorem bI_lss : binInt .lss k x y = some (.bool (x < y)) := rfl
@[go_sem] theorem bI_leq : binInt .leq k x y = some (.bool (x ≤ y)) := rfl
@[go_sem] theorem bI_gtr : binInt .gtr k x y = some (.bool (x > y)) := rfl
@[go_sem] theorem bI_geq : binInt .geq k x y = some (.bool (x ≥ y)) := rfl
attribute [go_sem] and32 and64 andI or32 or64
end
section
variable {k : IntKind} {l : List Nat} {i n : Nat} {t t' : List AV} {W : List Nat}
@[go_sem] theorem partA_cons {a : AV} {cs : List AV} : partA false (a :: cs) 0 1 = some a := by simp [partA]
@[go_sem] theorem partA_agg {cs : List AV} {n : Nat} (h : n ≤ cs.length) : partA true cs 0 n = some (.agg (cs.take n)) := by simp [partA, h]
theorem partA_at {agg : Bool} {cs : List AV} {o n : Nat} : partA agg cs o n = if o + n ≤ cs.length then (if agg then some (.agg ((cs.drop o).take n)) else cs[o]?) else none := rfl
@[go_sem] theorem part_ints (h : i < l.length) : partA false ((ints k l).drop i) 0 1 = some (.int k ((dg l i : Nat) : Int)) := by
  have hl : 0 + 1 ≤ ((ints k l).drop i).length := by rw [List.length_drop, ints_len]; omega
  simp only [partA, if_pos hl]
  simpa using ints_head h
@[go_sem] theorem store_ints {x : Nat} (h : i < l.length) : (ints k l).take i ++ ([AV.int k (x : Int)] ++ (ints k l).drop (i + 1)) = ints k (l.set i x) := by
  rw [← List.append_assoc]; exact ints_set h
@[go_sem] theorem store_ints' {x : Nat} (h : i < l.length) : (ints k l).take i ++ AV.int k (x : Int) :: (ints k l).drop (i + 1) = ints k (l.set i x) := by
  have := ints_set (k := k) (d := x) h
  simpa using this
theorem fix_len (h : Fix W t t') (hN : t.length = n) : t'.length = n := h.1.trans hN
end
end Go.Am
end
section
set_option maxRecDepth 4000
namespace Go.Am
open Go
abbrev id_word_Read : FuncId := 155
abbrev id_word_Reduce : FuncId := 187
abbrev id_word_Small : FuncId := 189
abbrev id_word_Nat_Pow : FuncId := 190
abbrev id_word_Frac_Give : FuncId := 191
abbrev id_word_Nat_Zero : FuncId := 192
abbrev id_word_Nat_One : FuncId := 222
abbrev id_slices_Clone_uint32 : FuncId := 233
abbrev id_word_Frac_Cmp : FuncId := 238
abbrev id_word_Of : FuncId := 248
abbrev id_word_Frac_Fits : FuncId := 249
abbrev id_word_Nat_Twos : FuncId := 273
abbrev id_word_Nat_Shr : FuncId := 274
abbrev id_word_Nat_Bits : FuncId := 275
abbrev id_word_Nat_GCD : FuncId := 276
abbrev id_word_Nat_Div : FuncId := 277
abbrev id_word_Nat_Mul : FuncId := 278
abbrev id_word_Nat_Add : FuncId := 279
abbrev id_word_Frac_Sign : FuncId := 283
abbrev id_bits_Len32 : FuncId := 296
abbrev id_word_Nat_DivSmall : FuncId := 307
abbrev id_word_Nat_Cmp : FuncId := 320
abbrev id_bits_TrailingZeros32 : FuncId := 337
abbrev id_bits_LeadingZeros32 : FuncId := 338
abbrev id_word_Nat_Shl : FuncId := 339
abbrev id_word_digit : FuncId := 340
abbrev id_word_Frac_Opposite : FuncId := 354
abbrev id_word_Int : FuncId := 396
def fn_word_Of : AFn := ⟨21, [.tmp 2], false,
  .seq (.region [⟨some 2, none, .mov (.const (.nils))⟩] none) <|
  .seq (.block 0 <|
  .loop <|
  .seq (.seq (.region [⟨some 3, none, .mov (.tmp 0)⟩,
    ⟨some 4, none, .len 1 (.tmp 3)⟩,
    ⟨some 5, none, .bin .gtr (.tmp 4) (.const (.int .i64 0))⟩,
    ⟨some 6, none, .mov (.tmp 5)⟩,
    ⟨some 7, some (6, true), .mov (.tmp 0)⟩,
    ⟨some 8, some (6, true), .mov (.tmp 0)⟩,
    ⟨some 9, some (6, true), .len 1 (.tmp 8)⟩,
    ⟨some 10, some (6, true), .bin .sub (.tmp 9) (.const (.int .i64 1))⟩,
    ⟨some 11, some (6, true), .iaddr 1 (.tmp 7) (.tmp 10)⟩,
    ⟨some 12, some (6, true), .load false 1 (.tmp 11)⟩,
    ⟨some 13, some (6, true), .bin .eql (.tmp 12) (.const (.int .u32 0))⟩,
    ⟨some 14, none, .pick (.tmp 6) (.tmp 13) (.const (.bool false))⟩] none) <|
  .cond (.tmp 14)
   (.skip)
   (.exit 0)) <|
  .block 1 <|
  .region [⟨some 15, none, .mov (.tmp 0)⟩,
    ⟨some 16, none, .mov (.tmp 0)⟩,
    ⟨some 17, none, .len 1 (.tmp 16)⟩,
    ⟨some 18, none, .bin .sub (.tmp 17) (.const (.int .i64 1))⟩,
    ⟨some 19, none, .slice false 1 (.tmp 15) none (some (.tmp 18))⟩,
    ⟨some 0, none, .mov (.tmp 19)⟩] none) <|
  .seq (.region [⟨some 20, none, .mov (.tmp 0)⟩,
    ⟨some 2, none, .mov (.tmp 20)⟩] none) <|
  .ret⟩
def fn_word_Small : AFn := ⟨10, [.tmp 2], false,
  .seq (.region [⟨some 2, none, .mov (.const (.nils))⟩] none) <|
  .seq (.region [⟨some 3, none, .mov (.tmp 0)⟩,
    ⟨some 4, none, .conv (.toInt .u32) (.tmp 3)⟩,
    ⟨some 5, none, .mov (.tmp 0)⟩,
    ⟨some 6, none, .bin .shr (.tmp 5) (.const (.int .u64 32))⟩,
    ⟨some 7, none, .conv (.toInt .u32) (.tmp 6)⟩,
    ⟨some 8, none, .bslice 191 1 2 [.int .u32 0] [(0, 1, (.tmp 4)), (1, 1, (.tmp 7))]⟩,
    ⟨some 9, none, .callf id_word_Of [.tmp 8]⟩,
    ⟨some 2, none, .mov (.tmp 9)⟩] none) <|
  .ret⟩
def fn_word_Nat_Zero : AFn := ⟨6, [.tmp 2], false,
  .seq (.region [⟨some 2, none, .mov (.const (.bool false))⟩] none) <|
  .seq (.region [⟨some 3, none, .mov (.tmp 0)⟩,
    ⟨some 4, none, .len 1 (.tmp 3)⟩,
    ⟨some 5, none, .bin .eql (.tmp 4) (.const (.int .i64 0))⟩,
    ⟨some 2, none, .mov (.tmp 5)⟩] none) <|
  .ret⟩
def fn_word_Nat_One : AFn := ⟨12, [.tmp 2], false,
  .seq (.region [⟨some 2, none, .mov (.const (.bool false))⟩] none) <|
  .seq (.region [⟨some 3, none, .mov (.tmp 0)⟩,
    ⟨some 4, none, .len 1 (.tmp 3)⟩,
    ⟨some 5, none, .bin .eql (.tmp 4) (.const (.int .i64 1))⟩,
    ⟨some 6, none, .mov (.tmp 5)⟩,
    ⟨some 7, some (6, true), .mov (.tmp 0)⟩,
    ⟨some 8, some (6, true), .iaddr 1 (.tmp 7) (.const (.int .i64 0))⟩,
    ⟨some 9, some (6, true), .load false 1 (.tmp 8)⟩,
    ⟨some 10, some (6, true), .bin .eql (.tmp 9) (.const (.int .u32 1))⟩,
    ⟨some 11, none, .pick (.tmp 6) (.tmp 10) (.const (.bool false))⟩,
    ⟨some 2, none, .mov (.tmp 11)⟩] none) <|
  .ret⟩
def fn_word_Nat_Cmp : AFn := ⟨41, [.tmp 4], false,
  .seq (.region [⟨some 4, none, .mov (.const (.int .i64 0))⟩] none) <|
  .seq (.seq (.region [⟨some 6, none, .mov (.tmp 0)⟩,
    ⟨some 7, none, .len 1 (.tmp 6)⟩,
    ⟨some 8, none, .mov (.tmp 1)⟩,
    ⟨some 9, none, .len 1 (.tmp 8)⟩,
    ⟨some 10, none, .bin .neq (.tmp 7) (.tmp 9)⟩] none) <|
  .cond (.tmp 10)
   (.seq (.seq (.region [⟨some 11, none, .mov (.tmp 0)⟩,
     ⟨some 12, none, .len 1 (.tmp 11)⟩,
     ⟨some 13, none, .mov (.tmp 1)⟩,
     ⟨some 14, none, .len 1 (.tmp 13)⟩,
     ⟨some 15, none, .bin .lss (.tmp 12) (.tmp 14)⟩] none) <|
   .cond (.tmp 15)
    (.seq (.region [⟨some 4, none, .mov (.const (.int .i64 (-1)))⟩] none) <|
    .ret)
    (.skip)) <|
   .seq (.region [⟨some 4, none, .mov (.const (.int .i64 1))⟩] none) <|
   .ret)
   (.skip)) <|
  .seq (.seq (.region [⟨some 16, none, .mov (.tmp 0)⟩,
    ⟨some 17, none, .len 1 (.tmp 16)⟩,
    ⟨some 18, none, .bin .sub (.tmp 17) (.const (.int .i64 1))⟩,
    ⟨some 5, none, .mov (.tmp 18)⟩] none) <|
  .block 0 <|
  .loop <|
  .seq (.seq (.region [⟨some 19, none, .mov (.tmp 5)⟩,
    ⟨some 20, none, .bin .geq (.tmp 19) (.const (.int .i64 0))⟩] none) <|
  .cond (.tmp 20)
   (.skip)
   (.exit 0)) <|
  .seq (.block 1 <|
  .seq (.seq (.region [⟨some 23, none, .mov (.tmp 0)⟩,
    ⟨some 24, none, .mov (.tmp 5)⟩,
    ⟨some 25, none, .iaddr 1 (.tmp 23) (.tmp 24)⟩,
    ⟨some 26, none, .load false 1 (.tmp 25)⟩,
    ⟨some 27, none, .mov (.tmp 1)⟩,
    ⟨some 28, none, .mov (.tmp 5)⟩,
    ⟨some 29, none, .iaddr 1 (.tmp 27) (.tmp 28)⟩,
    ⟨some 30, none, .load false 1 (.tmp 29)⟩,
    ⟨some 31, none, .bin .lss (.tmp 26) (.tmp 30)⟩] (some ⟨[(3, 7)], [[], [], [], [], [], [], [], [], []]⟩)) <|
  .cond (.tmp 31)
   (.seq (.region [⟨some 4, none, .mov (.const (.int .i64 (-1)))⟩] none) <|
   .ret)
   (.skip)) <|
  .seq (.region [⟨some 32, none, .mov (.tmp 0)⟩,
    ⟨some 33, none, .mov (.tmp 5)⟩,
    ⟨some 34, none, .iaddr 1 (.tmp 32) (.tmp 33)⟩,
    ⟨some 35, none, .load false 1 (.tmp 34)⟩,
    ⟨some 36, none, .mov (.tmp 1)⟩,
    ⟨some 37, none, .mov (.tmp 5)⟩,
    ⟨some 38, none, .iaddr 1 (.tmp 36) (.tmp 37)⟩,
    ⟨some 39, none, .load false 1 (.tmp 38)⟩,
    ⟨some 40, none, .bin .gtr (.tmp 35) (.tmp 39)⟩] (some ⟨[(3, 7)], [[], [], [], [], [], [], [], [], []]⟩)) <|
  .cond (.tmp 40)
   (.seq (.region [⟨some 4, none, .mov (.const (.int .i64 1))⟩] none) <|
   .ret)
   (.skip)) <|
  .region [⟨some 21, none, .mov (.tmp 5)⟩,
    ⟨some 22, none, .bin .sub (.tmp 21) (.const (.int .i64 1))⟩,
    ⟨some 5, none, .mov (.tmp 22)⟩] none) <|
  .seq (.region [⟨some 4, none, .mov (.const (.int .i64 0))⟩] none) <|
  .ret⟩
def fn_word_Nat_Bits : AFn := ⟨18, [.tmp 2], false,
  .seq (.region [⟨some 2, none, .mov (.const (.int .i64 0))⟩] none) <|
  .seq (.seq (.region [⟨some 3, none, .mov (.tmp 0)⟩,
    ⟨some 4, none, .len 1 (.tmp 3)⟩,
    ⟨some 5, none, .bin .eql (.tmp 4) (.const (.int .i64 0))⟩] none) <|
  .cond (.tmp 5)
   (.seq (.region [⟨some 2, none, .mov (.const (.int .i64 0))⟩] none) <|
   .ret)
   (.skip)) <|
  .seq (.region [⟨some 6, none, .mov (.tmp 0)⟩,
    ⟨some 7, none, .len 1 (.tmp 6)⟩,
    ⟨some 8, none, .bin .sub (.tmp 7) (.const (.int .i64 1))⟩,
    ⟨some 9, none, .bin .mul (.const (.int .i64 32)) (.tmp 8)⟩,
    ⟨some 10, none, .mov (.tmp 0)⟩,
    ⟨some 11, none, .mov (.tmp 0)⟩,
    ⟨some 12, none, .len 1 (.tmp 11)⟩,
    ⟨some 13, none, .bin .sub (.tmp 12) (.const (.int .i64 1))⟩,
    ⟨some 14, none, .iaddr 1 (.tmp 10) (.tmp 13)⟩,
    ⟨some 15, none, .load false 1 (.tmp 14)⟩,
    ⟨some 16, none, .callf id_bits_Len32 [.tmp 15]⟩,
    ⟨some 17, none, .bin .add (.tmp 9) (.tmp 16)⟩,
    ⟨some 2, none, .mov (.tmp 17)⟩] none) <|
  .ret⟩
def fn_word_Nat_Twos : AFn := ⟨20, [.tmp 2], false,
  .seq (.region [⟨some 2, none, .mov (.const (.int .i64 0))⟩] none) <|
  .seq (.seq (.region [⟨some 5, none, .mov (.tmp 0)⟩,
    ⟨some 6, none, .len 1 (.tmp 5)⟩,
    ⟨some 7, none, .mov (.const (.int .i64 0))⟩] none) <|
  .block 0 <|
  .loop <|
  .seq (.region [⟨some 8, none, .bin .lss (.tmp 7) (.tmp 6)⟩] none) <|
  .seq (.cond (.tmp 8)
   (.skip)
   (.exit 0)) <|
  .seq (.block 1 <|
  .seq (.region [⟨some 9, none, .mov (.tmp 7)⟩,
    ⟨some 10, none, .iaddr 1 (.tmp 5) (.tmp 7)⟩,
    ⟨some 11, none, .load false 1 (.tmp 10)⟩,
    ⟨some 3, none, .mov (.tmp 9)⟩,
    ⟨some 4, none, .mov (.tmp 11)⟩] none) <|
  .seq (.region [⟨some 12, none, .mov (.tmp 4)⟩,
    ⟨some 13, none, .bin .neq (.tmp 12) (.const (.int .u32 0))⟩] none) <|
  .cond (.tmp 13)
   (.seq (.region [⟨some 14, none, .mov (.tmp 3)⟩,
     ⟨some 15, none, .bin .mul (.const (.int .i64 32)) (.tmp 14)⟩,
     ⟨some 16, none, .mov (.tmp 4)⟩,
     ⟨some 17, none, .callf id_bits_TrailingZeros32 [.tmp 16]⟩,
     ⟨some 18, none, .bin .add (.tmp 15) (.tmp 17)⟩,
     ⟨some 2, none, .mov (.tmp 18)⟩] none) <|
   .ret)
   (.skip)) <|
  .region [⟨some 19, none, .bin .add (.tmp 7) (.const (.int .i64 1))⟩,
    ⟨some 7, none, .mov (.tmp 19)⟩] none) <|
  .seq (.region [⟨some 2, none, .mov (.const (.int .i64 0))⟩] none) <|
  .ret⟩
def fn_word_Nat_Add : AFn := ⟨59, [.tmp 4], false,
  .seq (.region [⟨some 4, none, .mov (.const (.nils))⟩] none) <|
  .seq (.seq (.region [⟨some 10, none, .mov (.tmp 0)⟩,
    ⟨some 11, none, .len 1 (.tmp 10)⟩,
    ⟨some 12, none, .mov (.tmp 1)⟩,
    ⟨some 13, none, .len 1 (.tmp 12)⟩,
    ⟨some 14, none, .bin .lss (.tmp 11) (.tmp 13)⟩] none) <|
  .cond (.tmp 14)
   (.region [⟨some 15, none, .mov (.tmp 1)⟩,
     ⟨some 16, none, .mov (.tmp 0)⟩,
     ⟨some 0, none, .mov (.tmp 15)⟩,
     ⟨some 1, none, .mov (.tmp 16)⟩] none)
   (.skip)) <|
  .seq (.region [⟨some 17, none, .mov (.tmp 0)⟩,
    ⟨some 18, none, .len 1 (.tmp 17)⟩,
    ⟨some 19, none, .bin .add (.tmp 18) (.const (.int .i64 1))⟩,
    ⟨some 20, none, .mkslice 191 1 4 [.int .u32 0] (.tmp 19) (.tmp 19)⟩,
    ⟨some 5, none, .mov (.tmp 20)⟩] none) <|
  .seq (.region [⟨some 6, none, .mov (.const (.int .u64 0))⟩] none) <|
  .seq (.seq (.region [⟨some 21, none, .mov (.tmp 0)⟩,
    ⟨some 22, none, .len 1 (.tmp 21)⟩,
    ⟨some 23, none, .mov (.const (.int .i64 0))⟩] none) <|
  .block 0 <|
  .loop <|
  .seq (.region [⟨some 24, none, .bin .lss (.tmp 23) (.tmp 22)⟩] none) <|
  .seq (.cond (.tmp 24)
   (.skip)
   (.exit 0)) <|
  .seq (.block 1 <|
  .seq (.region [⟨some 25, none, .mov (.tmp 23)⟩,
    ⟨some 26, none, .iaddr 1 (.tmp 21) (.tmp 23)⟩,
    ⟨some 27, none, .load false 1 (.tmp 26)⟩,
    ⟨some 7, none, .mov (.tmp 25)⟩,
    ⟨some 8, none, .mov (.tmp 27)⟩] none) <|
  .seq (.region [⟨some 28, none, .mov (.tmp 8)⟩,
    ⟨some 29, none, .conv (.toInt .u64) (.tmp 28)⟩,
    ⟨some 30, none, .mov (.tmp 6)⟩,
    ⟨some 31, none, .bin .add (.tmp 29) (.tmp 30)⟩,
    ⟨some 9, none, .mov (.tmp 31)⟩] none) <|
  .seq (.seq (.region [⟨some 32, none, .mov (.tmp 7)⟩,
    ⟨some 33, none, .mov (.tmp 1)⟩,
    ⟨some 34, none, .len 1 (.tmp 33)⟩,
    ⟨some 35, none, .bin .lss (.tmp 32) (.tmp 34)⟩] none) <|
  .cond (.tmp 35)
   (.region [⟨some 36, none, .mov (.tmp 9)⟩,
     ⟨some 37, none, .mov (.tmp 1)⟩,
     ⟨some 38, none, .mov (.tmp 7)⟩,
     ⟨some 39, none, .iaddr 1 (.tmp 37) (.tmp 38)⟩,
     ⟨some 40, none, .load false 1 (.tmp 39)⟩,
     ⟨some 41, none, .conv (.toInt .u64) (.tmp 40)⟩,
     ⟨some 42, none, .bin .add (.tmp 36) (.tmp 41)⟩,
     ⟨some 9, none, .mov (.tmp 42)⟩] none)
   (.skip)) <|
  .seq (.region [⟨some 43, none, .mov (.tmp 5)⟩,
    ⟨some 44, none, .mov (.tmp 7)⟩,
    ⟨some 45, none, .mov (.tmp 9)⟩,
    ⟨some 46, none, .conv (.toInt .u32) (.tmp 45)⟩,
    ⟨some 47, none, .iaddr 1 (.tmp 43) (.tmp 44)⟩,
    ⟨none, none, .store 1 (.tmp 47) (.tmp 46)⟩] none) <|
  .region [⟨some 48, none, .mov (.tmp 9)⟩,
    ⟨some 49, none, .bin .shr (.tmp 48) (.const (.int .u64 32))⟩,
    ⟨some 6, none, .mov (.tmp 49)⟩] none) <|
  .region [⟨some 50, none, .bin .add (.tmp 23) (.const (.int .i64 1))⟩,
    ⟨some 23, none, .mov (.tmp 50)⟩] none) <|
  .seq (.region [⟨some 51, none, .mov (.tmp 5)⟩,
    ⟨some 52, none, .mov (.tmp 0)⟩,
    ⟨some 53, none, .len 1 (.tmp 52)⟩,
    ⟨some 54, none, .mov (.tmp 6)⟩,
    ⟨some 55, none, .conv (.toInt .u32) (.tmp 54)⟩,
    ⟨some 56, none, .iaddr 1 (.tmp 51) (.tmp 53)⟩,
    ⟨none, none, .store 1 (.tmp 56) (.tmp 55)⟩] none) <|
  .seq (.region [⟨some 57, none, .mov (.tmp 5)⟩,
    ⟨some 58, none, .callf id_word_Of [.tmp 57]⟩,
    ⟨some 4, none, .mov (.tmp 58)⟩] none) <|
  .ret⟩
def fn_word_Nat_Shl : AFn := ⟨58, [.tmp 4], false,
  .seq (.region [⟨some 4, none, .mov (.const (.nils))⟩] none) <|
  .seq (.seq (.region [⟨some 11, none, .mov (.tmp 0)⟩,
    ⟨some 12, none, .len 1 (.tmp 11)⟩,
    ⟨some 13, none, .bin .eql (.tmp 12) (.const (.int .i64 0))⟩] none) <|
  .cond (.tmp 13)
   (.seq (.region [⟨some 4, none, .mov (.const (.nils))⟩] none) <|
   .ret)
   (.skip)) <|
  .seq (.region [⟨some 14, none, .mov (.tmp 1)⟩,
    ⟨some 15, none, .bin .quo (.tmp 14) (.const (.int .i64 32))⟩,
    ⟨some 16, none, .mov (.tmp 1)⟩,
    ⟨some 17, none, .bin .rem (.tmp 16) (.const (.int .i64 32))⟩,
    ⟨some 18, none, .conv (.toInt .u64) (.tmp 17)⟩,
    ⟨some 5, none, .mov (.tmp 15)⟩,
    ⟨some 6, none, .mov (.tmp 18)⟩] none) <|
  .seq (.region [⟨some 19, none, .mov (.tmp 0)⟩,
    ⟨some 20, none, .len 1 (.tmp 19)⟩,
    ⟨some 21, none, .mov (.tmp 5)⟩,
    ⟨some 22, none, .bin .add (.tmp 20) (.tmp 21)⟩,
    ⟨some 23, none, .bin .add (.tmp 22) (.const (.int .i64 1))⟩,
    ⟨some 24, none, .mkslice 191 1 4 [.int .u32 0] (.tmp 23) (.tmp 23)⟩,
    ⟨some 7, none, .mov (.tmp 24)⟩] none) <|
  .seq (.seq (.region [⟨some 25, none, .mov (.tmp 0)⟩,
    ⟨some 26, none, .len 1 (.tmp 25)⟩,
    ⟨some 27, none, .mov (.const (.int .i64 0))⟩] none) <|
  .block 0 <|
  .loop <|
  .seq (.region [⟨some 28, none, .bin .lss (.tmp 27) (.tmp 26)⟩] none) <|
  .seq (.cond (.tmp 28)
   (.skip)
   (.exit 0)) <|
  .seq (.block 1 <|
  .seq (.region [⟨some 29, none, .mov (.tmp 27)⟩,
    ⟨some 30, none, .iaddr 1 (.tmp 25) (.tmp 27)⟩,
    ⟨some 31, none, .load false 1 (.tmp 30)⟩,
    ⟨some 8, none, .mov (.tmp 29)⟩,
    ⟨some 9, none, .mov (.tmp 31)⟩] none) <|
  .seq (.region [⟨some 32, none, .mov (.tmp 9)⟩,
    ⟨some 33, none, .conv (.toInt .u64) (.tmp 32)⟩,
    ⟨some 34, none, .mov (.tmp 6)⟩,
    ⟨some 35, none, .bin .shl (.tmp 33) (.tmp 34)⟩,
    ⟨some 10, none, .mov (.tmp 35)⟩] none) <|
  .seq (.region [⟨some 36, none, .mov (.tmp 7)⟩,
    ⟨some 37, none, .mov (.tmp 5)⟩,
    ⟨some 38, none, .mov (.tmp 8)⟩,
    ⟨some 39, none, .bin .add (.tmp 37) (.tmp 38)⟩,
    ⟨some 40, none, .iaddr 1 (.tmp 36) (.tmp 39)⟩,
    ⟨some 41, none, .load false 1 (.tmp 40)⟩,
    ⟨some 42, none, .mov (.tmp 10)⟩,
    ⟨some 43, none, .conv (.toInt .u32) (.tmp 42)⟩,
    ⟨some 44, none, .bin .or (.tmp 41) (.tmp 43)⟩,
    ⟨some 45, none, .iaddr 1 (.tmp 36) (.tmp 39)⟩,
    ⟨none, none, .store 1 (.tmp 45) (.tmp 44)⟩] none) <|
  .region [⟨some 46, none, .mov (.tmp 7)⟩,
    ⟨some 47, none, .mov (.tmp 5)⟩,
    ⟨some 48, none, .mov (.tmp 8)⟩,
    ⟨some 49, none, .bin .add (.tmp 47) (.tmp 48)⟩,
    ⟨some 50, none, .bin .add (.tmp 49) (.const (.int .i64 1))⟩,
    ⟨some 51, none, .mov (.tmp 10)⟩,
    ⟨some 52, none, .bin .shr (.tmp 51) (.const (.int .u64 32))⟩,
    ⟨some 53, none, .conv (.toInt .u32) (.tmp 52)⟩,
    ⟨some 54, none, .iaddr 1 (.tmp 46) (.tmp 50)⟩,
    ⟨none, none, .store 1 (.tmp 54) (.tmp 53)⟩] none) <|
  .region [⟨some 55, none, .bin .add (.tmp 27) (.const (.int .i64 1))⟩,
    ⟨some 27, none, .mov (.tmp 55)⟩] none) <|
  .seq (.region [⟨some 56, none, .mov (.tmp 7)⟩,
    ⟨some 57, none, .callf id_word_Of [.tmp 56]⟩,
    ⟨some 4, none, .mov (.tmp 57)⟩] none) <|
  .ret⟩
def fn_word_Nat_Shr : AFn := ⟨64, [.tmp 4], false,
  .seq (.region [⟨some 4, none, .mov (.const (.nils))⟩] none) <|
  .seq (.region [⟨some 10, none, .mov (.tmp 1)⟩,
    ⟨some 11, none, .bin .quo (.tmp 10) (.const (.int .i64 32))⟩,
    ⟨some 12, none, .mov (.tmp 1)⟩,
    ⟨some 13, none, .bin .rem (.tmp 12) (.const (.int .i64 32))⟩,
    ⟨some 14, none, .conv (.toInt .u64) (.tmp 13)⟩,
    ⟨some 5, none, .mov (.tmp 11)⟩,
    ⟨some 6, none, .mov (.tmp 14)⟩] none) <|
  .seq (.seq (.region [⟨some 15, none, .mov (.tmp 5)⟩,
    ⟨some 16, none, .mov (.tmp 0)⟩,
    ⟨some 17, none, .len 1 (.tmp 16)⟩,
    ⟨some 18, none, .bin .geq (.tmp 15) (.tmp 17)⟩] none) <|
  .cond (.tmp 18)
   (.seq (.region [⟨some 4, none, .mov (.const (.nils))⟩] none) <|
   .ret)
   (.skip)) <|
  .seq (.region [⟨some 19, none, .mov (.tmp 0)⟩,
    ⟨some 20, none, .len 1 (.tmp 19)⟩,
    ⟨some 21, none, .mov (.tmp 5)⟩,
    ⟨some 22, none, .bin .sub (.tmp 20) (.tmp 21)⟩,
    ⟨some 23, none, .mkslice 191 1 4 [.int .u32 0] (.tmp 22) (.tmp 22)⟩,
    ⟨some 7, none, .mov (.tmp 23)⟩] none) <|
  .seq (.seq (.region [⟨some 24, none, .mov (.tmp 7)⟩,
    ⟨some 25, none, .len 1 (.tmp 24)⟩,
    ⟨some 26, none, .mov (.const (.int .i64 0))⟩] none) <|
  .block 0 <|
  .loop <|
  .seq (.region [⟨some 27, none, .bin .lss (.tmp 26) (.tmp 25)⟩] none) <|
  .seq (.cond (.tmp 27)
   (.skip)
   (.exit 0)) <|
  .seq (.block 1 <|
  .seq (.region [⟨some 28, none, .mov (.tmp 26)⟩,
    ⟨some 8, none, .mov (.tmp 28)⟩] none) <|
  .seq (.region [⟨some 29, none, .mov (.tmp 0)⟩,
    ⟨some 30, none, .mov (.tmp 5)⟩,
    ⟨some 31, none, .mov (.tmp 8)⟩,
    ⟨some 32, none, .bin .add (.tmp 30) (.tmp 31)⟩,
    ⟨some 33, none, .iaddr 1 (.tmp 29) (.tmp 32)⟩,
    ⟨some 34, none, .load false 1 (.tmp 33)⟩,
    ⟨some 35, none, .conv (.toInt .u64) (.tmp 34)⟩,
    ⟨some 9, none, .mov (.tmp 35)⟩] none) <|
  .seq (.seq (.region [⟨some 36, none, .mov (.tmp 5)⟩,
    ⟨some 37, none, .mov (.tmp 8)⟩,
    ⟨some 38, none, .bin .add (.tmp 36) (.tmp 37)⟩,
    ⟨some 39, none, .bin .add (.tmp 38) (.const (.int .i64 1))⟩,
    ⟨some 40, none, .mov (.tmp 0)⟩,
    ⟨some 41, none, .len 1 (.tmp 40)⟩,
    ⟨some 42, none, .bin .lss (.tmp 39) (.tmp 41)⟩] none) <|
  .cond (.tmp 42)
   (.region [⟨some 43, none, .mov (.tmp 9)⟩,
     ⟨some 44, none, .mov (.tmp 0)⟩,
     ⟨some 45, none, .mov (.tmp 5)⟩,
     ⟨some 46, none, .mov (.tmp 8)⟩,
     ⟨some 47, none, .bin .add (.tmp 45) (.tmp 46)⟩,
     ⟨some 48, none, .bin .add (.tmp 47) (.const (.int .i64 1))⟩,
     ⟨some 49, none, .iaddr 1 (.tmp 44) (.tmp 48)⟩,
     ⟨some 50, none, .load false 1 (.tmp 49)⟩,
     ⟨some 51, none, .conv (.toInt .u64) (.tmp 50)⟩,
     ⟨some 52, none, .bin .shl (.tmp 51) (.const (.int .u64 32))⟩,
     ⟨some 53, none, .bin .or (.tmp 43) (.tmp 52)⟩,
     ⟨some 9, none, .mov (.tmp 53)⟩] none)
   (.skip)) <|
  .region [⟨some 54, none, .mov (.tmp 7)⟩,
    ⟨some 55, none, .mov (.tmp 8)⟩,
    ⟨some 56, none, .mov (.tmp 9)⟩,
    ⟨some 57, none, .mov (.tmp 6)⟩,
    ⟨some 58, none, .bin .shr (.tmp 56) (.tmp 57)⟩,
    ⟨some 59, none, .conv (.toInt .u32) (.tmp 58)⟩,
    ⟨some 60, none, .iaddr 1 (.tmp 54) (.tmp 55)⟩,
    ⟨none, none, .store 1 (.tmp 60) (.tmp 59)⟩] none) <|
  .region [⟨some 61, none, .bin .add (.tmp 26) (.const (.int .i64 1))⟩,
    ⟨some 26, none, .mov (.tmp 61)⟩] none) <|
  .seq (.region [⟨some 62, none, .mov (.tmp 7)⟩,
    ⟨some 63, none, .callf id_word_Of [.tmp 62]⟩,
    ⟨some 4, none, .mov (.tmp 63)⟩] none) <|
  .ret⟩
def fn_word_Nat_Mul : AFn := ⟨76, [.tmp 4], false,
  .seq (.region [⟨some 4, none, .mov (.const (.nils))⟩] none) <|
  .seq (.seq (.region [⟨some 12, none, .mov (.tmp 0)⟩,
    ⟨some 13, none, .len 1 (.tmp 12)⟩,
    ⟨some 14, none, .bin .eql (.tmp 13) (.const (.int .i64 0))⟩,
    ⟨some 15, none, .mov (.tmp 14)⟩,
    ⟨some 16, some (15, false), .mov (.tmp 1)⟩,
    ⟨some 17, some (15, false), .len 1 (.tmp 16)⟩,
    ⟨some 18, some (15, false), .bin .eql (.tmp 17) (.const (.int .i64 0))⟩,
    ⟨some 19, none, .pick (.tmp 15) (.const (.bool true)) (.tmp 18)⟩] none) <|
  .cond (.tmp 19)
   (.seq (.region [⟨some 4, none, .mov (.const (.nils))⟩] none) <|
   .ret)
   (.skip)) <|
  .seq (.region [⟨some 20, none, .mov (.tmp 0)⟩,
    ⟨some 21, none, .len 1 (.tmp 20)⟩,
    ⟨some 22, none, .mov (.tmp 1)⟩,
    ⟨some 23, none, .len 1 (.tmp 22)⟩,
    ⟨some 24, none, .bin .add (.tmp 21) (.tmp 23)⟩,
    ⟨some 25, none, .mkslice 191 1 4 [.int .u32 0] (.tmp 24) (.tmp 24)⟩,
    ⟨some 5, none, .mov (.tmp 25)⟩] none) <|
  .seq (.seq (.region [⟨some 26, none, .mov (.tmp 0)⟩,
    ⟨some 27, none, .len 1 (.tmp 26)⟩,
    ⟨some 28, none, .mov (.const (.int .i64 0))⟩] none) <|
  .block 0 <|
  .loop <|
  .seq (.region [⟨some 29, none, .bin .lss (.tmp 28) (.tmp 27)⟩] none) <|
  .seq (.cond (.tmp 29)
   (.skip)
   (.exit 0)) <|
  .seq (.block 1 <|
  .seq (.region [⟨some 30, none, .mov (.tmp 28)⟩,
    ⟨some 31, none, .iaddr 1 (.tmp 26) (.tmp 28)⟩,
    ⟨some 32, none, .load false 1 (.tmp 31)⟩,
    ⟨some 6, none, .mov (.tmp 30)⟩,
    ⟨some 7, none, .mov (.tmp 32)⟩] none) <|
  .seq (.region [⟨some 8, none, .mov (.const (.int .u64 0))⟩] none) <|
  .seq (.seq (.region [⟨some 33, none, .mov (.tmp 1)⟩,
    ⟨some 34, none, .len 1 (.tmp 33)⟩,
    ⟨some 35, none, .mov (.const (.int .i64 0))⟩] none) <|
  .block 2 <|
  .loop <|
  .seq (.region [⟨some 36, none, .bin .lss (.tmp 35) (.tmp 34)⟩] none) <|
  .seq (.cond (.tmp 36)
   (.skip)
   (.exit 2)) <|
  .seq (.block 3 <|
  .seq (.region [⟨some 37, none, .mov (.tmp 35)⟩,
    ⟨some 38, none, .iaddr 1 (.tmp 33) (.tmp 35)⟩,
    ⟨some 39, none, .load false 1 (.tmp 38)⟩,
    ⟨some 9, none, .mov (.tmp 37)⟩,
    ⟨some 10, none, .mov (.tmp 39)⟩] none) <|
  .seq (.region [⟨some 40, none, .mov (.tmp 7)⟩,
    ⟨some 41, none, .conv (.toInt .u64) (.tmp 40)⟩,
    ⟨some 42, none, .mov (.tmp 10)⟩,
    ⟨some 43, none, .conv (.toInt .u64) (.tmp 42)⟩,
    ⟨some 44, none, .bin .mul (.tmp 41) (.tmp 43)⟩,
    ⟨some 45, none, .mov (.tmp 5)⟩,
    ⟨some 46, none, .mov (.tmp 6)⟩,
    ⟨some 47, none, .mov (.tmp 9)⟩,
    ⟨some 48, none, .bin .add (.tmp 46) (.tmp 47)⟩,
    ⟨some 49, none, .iaddr 1 (.tmp 45) (.tmp 48)⟩,
    ⟨some 50, none, .load false 1 (.tmp 49)⟩,
    ⟨some 51, none, .conv (.toInt .u64) (.tmp 50)⟩,
    ⟨some 52, none, .bin .add (.tmp 44) (.tmp 51)⟩,
    ⟨some 53, none, .mov (.tmp 8)⟩,
    ⟨some 54, none, .bin .add (.tmp 52) (.tmp 53)⟩,
    ⟨some 11, none, .mov (.tmp 54)⟩] none) <|
  .seq (.region [⟨some 55, none, .mov (.tmp 5)⟩,
    ⟨some 56, none, .mov (.tmp 6)⟩,
    ⟨some 57, none, .mov (.tmp 9)⟩,
    ⟨some 58, none, .bin .add (.tmp 56) (.tmp 57)⟩,
    ⟨some 59, none, .mov (.tmp 11)⟩,
    ⟨some 60, none, .conv (.toInt .u32) (.tmp 59)⟩,
    ⟨some 61, none, .iaddr 1 (.tmp 55) (.tmp 58)⟩,
    ⟨none, none, .store 1 (.tmp 61) (.tmp 60)⟩] none) <|
  .region [⟨some 62, none, .mov (.tmp 11)⟩,
    ⟨some 63, none, .bin .shr (.tmp 62) (.const (.int .u64 32))⟩,
    ⟨some 8, none, .mov (.tmp 63)⟩] none) <|
  .region [⟨some 64, none, .bin .add (.tmp 35) (.const (.int .i64 1))⟩,
    ⟨some 35, none, .mov (.tmp 64)⟩] none) <|
  .region [⟨some 65, none, .mov (.tmp 5)⟩,
    ⟨some 66, none, .mov (.tmp 6)⟩,
    ⟨some 67, none, .mov (.tmp 1)⟩,
    ⟨some 68, none, .len 1 (.tmp 67)⟩,
    ⟨some 69, none, .bin .add (.tmp 66) (.tmp 68)⟩,
    ⟨some 70, none, .mov (.tmp 8)⟩,
    ⟨some 71, none, .conv (.toInt .u32) (.tmp 70)⟩,
    ⟨some 72, none, .iaddr 1 (.tmp 65) (.tmp 69)⟩,
    ⟨none, none, .store 1 (.tmp 72) (.tmp 71)⟩] none) <|
  .region [⟨some 73, none, .bin .add (.tmp 28) (.const (.int .i64 1))⟩,
    ⟨some 28, none, .mov (.tmp 73)⟩] none) <|
  .seq (.region [⟨some 74, none, .mov (.tmp 5)⟩,
    ⟨some 75, none, .callf id_word_Of [.tmp 74]⟩,
    ⟨some 4, none, .mov (.tmp 75)⟩] none) <|
  .ret⟩
def fn_word_Nat_DivSmall : AFn := ⟨44, [.tmp 4, .tmp 5], false,
  .seq (.region [⟨some 4, none, .mov (.const (.nils))⟩,
    ⟨some 5, none, .mov (.const (.int .u32 0))⟩] none) <|
  .seq (.region [⟨some 10, none, .mov (.tmp 0)⟩,
    ⟨some 11, none, .len 1 (.tmp 10)⟩,
    ⟨some 12, none, .mkslice 191 1 4 [.int .u32 0] (.tmp 11) (.tmp 11)⟩,
    ⟨some 6, none, .mov (.tmp 12)⟩] none) <|
  .seq (.region [⟨some 7, none, .mov (.const (.int .u64 0))⟩] none) <|
  .seq (.seq (.region [⟨some 13, none, .mov (.tmp 0)⟩,
    ⟨some 14, none, .len 1 (.tmp 13)⟩,
    ⟨some 15, none, .bin .sub (.tmp 14) (.const (.int .i64 1))⟩,
    ⟨some 8, none, .mov (.tmp 15)⟩] none) <|
  .block 0 <|
  .loop <|
  .seq (.seq (.region [⟨some 16, none, .mov (.tmp 8)⟩,
    ⟨some 17, none, .bin .geq (.tmp 16) (.const (.int .i64 0))⟩] none) <|
  .cond (.tmp 17)
   (.skip)
   (.exit 0)) <|
  .seq (.block 1 <|
  .seq (.region [⟨some 20, none, .mov (.tmp 7)⟩,
    ⟨some 21, none, .bin .shl (.tmp 20) (.const (.int .u64 32))⟩,
    ⟨some 22, none, .mov (.tmp 0)⟩,
    ⟨some 23, none, .mov (.tmp 8)⟩,
    ⟨some 24, none, .iaddr 1 (.tmp 22) (.tmp 23)⟩,
    ⟨some 25, none, .load false 1 (.tmp 24)⟩,
    ⟨some 26, none, .conv (.toInt .u64) (.tmp 25)⟩,
    ⟨some 27, none, .bin .or (.tmp 21) (.tmp 26)⟩,
    ⟨some 9, none, .mov (.tmp 27)⟩] none) <|
  .seq (.region [⟨some 28, none, .mov (.tmp 6)⟩,
    ⟨some 29, none, .mov (.tmp 8)⟩,
    ⟨some 30, none, .mov (.tmp 9)⟩,
    ⟨some 31, none, .mov (.tmp 1)⟩,
    ⟨some 32, none, .conv (.toInt .u64) (.tmp 31)⟩,
    ⟨some 33, none, .bin .quo (.tmp 30) (.tmp 32)⟩,
    ⟨some 34, none, .conv (.toInt .u32) (.tmp 33)⟩,
    ⟨some 35, none, .iaddr 1 (.tmp 28) (.tmp 29)⟩,
    ⟨none, none, .store 1 (.tmp 35) (.tmp 34)⟩] none) <|
  .region [⟨some 36, none, .mov (.tmp 9)⟩,
    ⟨some 37, none, .mov (.tmp 1)⟩,
    ⟨some 38, none, .conv (.toInt .u64) (.tmp 37)⟩,
    ⟨some 39, none, .bin .rem (.tmp 36) (.tmp 38)⟩,
    ⟨some 7, none, .mov (.tmp 39)⟩] none) <|
  .region [⟨some 18, none, .mov (.tmp 8)⟩,
    ⟨some 19, none, .bin .sub (.tmp 18) (.const (.int .i64 1))⟩,
    ⟨some 8, none, .mov (.tmp 19)⟩] none) <|
  .seq (.region [⟨some 40, none, .mov (.tmp 6)⟩,
    ⟨some 41, none, .callf id_word_Of [.tmp 40]⟩,
    ⟨some 42, none, .mov (.tmp 7)⟩,
    ⟨some 43, none, .conv (.toInt .u32) (.tmp 42)⟩,
    ⟨some 4, none, .mov (.tmp 41)⟩,
    ⟨some 5, none, .mov (.tmp 43)⟩] none) <|
  .ret⟩
def fn_word_Nat_Div : AFn := ⟨85, [.tmp 4, .tmp 5], false,
  .seq (.region [⟨some 4, none, .mov (.const (.nils))⟩,
    ⟨some 5, none, .mov (.const (.nils))⟩] none) <|
  .seq (.seq (.region [⟨some 13, none, .mov (.tmp 0)⟩,
    ⟨some 14, none, .mov (.tmp 1)⟩,
    ⟨some 15, none, .callf id_word_Nat_Cmp [.tmp 13, .tmp 14]⟩,
    ⟨some 16, none, .bin .lss (.tmp 15) (.const (.int .i64 0))⟩] none) <|
  .cond (.tmp 16)
   (.seq (.region [⟨some 17, none, .mov (.tmp 0)⟩,
     ⟨some 4, none, .mov (.const (.nils))⟩,
     ⟨some 5, none, .mov (.tmp 17)⟩] none) <|
   .ret)
   (.skip)) <|
  .seq (.seq (.region [⟨some 18, none, .mov (.tmp 1)⟩,
    ⟨some 19, none, .len 1 (.tmp 18)⟩,
    ⟨some 20, none, .bin .eql (.tmp 19) (.const (.int .i64 1))⟩] none) <|
  .cond (.tmp 20)
   (.seq (.region [⟨some 22, none, .mov (.tmp 0)⟩,
     ⟨some 23, none, .mov (.tmp 1)⟩,
     ⟨some 24, none, .iaddr 1 (.tmp 23) (.const (.int .i64 0))⟩,
     ⟨some 25, none, .load false 1 (.tmp 24)⟩,
     ⟨some 26, none, .callf id_word_Nat_DivSmall [.tmp 22, .tmp 25]⟩,
     ⟨some 21, none, .mov (.tmp 26)⟩,
     ⟨some 27, none, .extract (.tmp 21) 0⟩,
     ⟨some 28, none, .extract (.tmp 21) 1⟩,
     ⟨some 6, none, .mov (.tmp 27)⟩,
     ⟨some 7, none, .mov (.tmp 28)⟩] none) <|
   .seq (.region [⟨some 29, none, .mov (.tmp 6)⟩,
     ⟨some 30, none, .mov (.tmp 7)⟩,
     ⟨some 31, none, .conv (.toInt .u64) (.tmp 30)⟩,
     ⟨some 32, none, .callf id_word_Small [.tmp 31]⟩,
     ⟨some 4, none, .mov (.tmp 29)⟩,
     ⟨some 5, none, .mov (.tmp 32)⟩] none) <|
   .ret)
   (.skip)) <|
  .seq (.region [⟨some 33, none, .mov (.tmp 1)⟩,
    ⟨some 34, none, .mov (.tmp 1)⟩,
    ⟨some 35, none, .len 1 (.tmp 34)⟩,
    ⟨some 36, none, .bin .sub (.tmp 35) (.const (.int .i64 1))⟩,
    ⟨some 37, none, .iaddr 1 (.tmp 33) (.tmp 36)⟩,
    ⟨some 38, none, .load false 1 (.tmp 37)⟩,
    ⟨some 39, none, .callf id_bits_LeadingZeros32 [.tmp 38]⟩,
    ⟨some 8, none, .mov (.tmp 39)⟩] none) <|
  .seq (.region [⟨some 40, none, .mov (.tmp 1)⟩,
    ⟨some 41, none, .mov (.tmp 8)⟩,
    ⟨some 42, none, .callf id_word_Nat_Shl [.tmp 40, .tmp 41]⟩,
    ⟨some 9, none, .mov (.tmp 42)⟩] none) <|
  .seq (.region [⟨some 43, none, .mov (.tmp 0)⟩,
    ⟨some 44, none, .len 1 (.tmp 43)⟩,
    ⟨some 45, none, .bin .add (.tmp 44) (.const (.int .i64 1))⟩,
    ⟨some 46, none, .mkslice 191 1 4 [.int .u32 0] (.tmp 45) (.tmp 45)⟩,
    ⟨some 10, none, .mov (.tmp 46)⟩] none) <|
  .seq (.region [⟨some 47, none, .mov (.tmp 10)⟩,
    ⟨some 48, none, .mov (.tmp 0)⟩,
    ⟨some 49, none, .mov (.tmp 8)⟩,
    ⟨some 50, none, .callf id_word_Nat_Shl [.tmp 48, .tmp 49]⟩,
    ⟨some 51, none, .copy 1 (.tmp 47) (.tmp 50)⟩] none) <|
  .seq (.region [⟨some 52, none, .mov (.tmp 0)⟩,
    ⟨some 53, none, .len 1 (.tmp 52)⟩,
    ⟨some 54, none, .mov (.tmp 1)⟩,
    ⟨some 55, none, .len 1 (.tmp 54)⟩,
    ⟨some 56, none, .bin .sub (.tmp 53) (.tmp 55)⟩,
    ⟨some 57, none, .bin .add (.tmp 56) (.const (.int .i64 1))⟩,
    ⟨some 58, none, .mkslice 191 1 4 [.int .u32 0] (.tmp 57) (.tmp 57)⟩,
    ⟨some 11, none, .mov (.tmp 58)⟩] none) <|
  .seq (.seq (.region [⟨some 59, none, .mov (.tmp 11)⟩,
    ⟨some 60, none, .len 1 (.tmp 59)⟩,
    ⟨some 61, none, .bin .sub (.tmp 60) (.const (.int .i64 1))⟩,
    ⟨some 12, none, .mov (.tmp 61)⟩] none) <|
  .block 0 <|
  .loop <|
  .seq (.seq (.region [⟨some 62, none, .mov (.tmp 12)⟩,
    ⟨some 63, none, .bin .geq (.tmp 62) (.const (.int .i64 0))⟩] none) <|
  .cond (.tmp 63)
   (.skip)
   (.exit 0)) <|
  .seq (.block 1 <|
  .region [⟨some 66, none, .mov (.tmp 11)⟩,
    ⟨some 67, none, .mov (.tmp 12)⟩,
    ⟨some 68, none, .mov (.tmp 10)⟩,
    ⟨some 69, none, .mov (.tmp 12)⟩,
    ⟨some 70, none, .mov (.tmp 12)⟩,
    ⟨some 71, none, .mov (.tmp 9)⟩,
    ⟨some 72, none, .len 1 (.tmp 71)⟩,
    ⟨some 73, none, .bin .add (.tmp 70) (.tmp 72)⟩,
    ⟨some 74, none, .bin .add (.tmp 73) (.const (.int .i64 1))⟩,
    ⟨some 75, none, .slice false 1 (.tmp 68) (some (.tmp 69)) (some (.tmp 74))⟩,
    ⟨some 76, none, .mov (.tmp 9)⟩,
    ⟨some 77, none, .callf id_word_digit [.tmp 75, .tmp 76]⟩,
    ⟨some 78, none, .iaddr 1 (.tmp 66) (.tmp 67)⟩,
    ⟨none, none, .store 1 (.tmp 78) (.tmp 77)⟩] none) <|
  .region [⟨some 64, none, .mov (.tmp 12)⟩,
    ⟨some 65, none, .bin .sub (.tmp 64) (.const (.int .i64 1))⟩,
    ⟨some 12, none, .mov (.tmp 65)⟩] none) <|
  .seq (.region [⟨some 79, none, .mov (.tmp 11)⟩,
    ⟨some 80, none, .callf id_word_Of [.tmp 79]⟩,
    ⟨some 81, none, .mov (.tmp 10)⟩,
    ⟨some 82, none, .callf id_word_Of [.tmp 81]⟩,
    ⟨some 83, none, .mov (.tmp 8)⟩,
    ⟨some 84, none, .callf id_word_Nat_Shr [.tmp 82, .tmp 83]⟩,
    ⟨some 4, none, .mov (.tmp 80)⟩,
    ⟨some 5, none, .mov (.tmp 84)⟩] none) <|
  .ret⟩
def fn_word_digit : AFn := ⟨175, [.tmp 4], true,
  .seq (.region [⟨some 4, none, .mov (.const (.int .u32 0))⟩] none) <|
  .seq (.region [⟨some 19, none, .mov (.tmp 1)⟩,
    ⟨some 20, none, .len 1 (.tmp 19)⟩,
    ⟨some 5, none, .mov (.tmp 20)⟩] none) <|
  .seq (.region [⟨some 21, none, .mov (.tmp 0)⟩,
    ⟨some 22, none, .mov (.tmp 5)⟩,
    ⟨some 23, none, .iaddr 1 (.tmp 21) (.tmp 22)⟩,
    ⟨some 24, none, .load false 1 (.tmp 23)⟩,
    ⟨some 25, none, .conv (.toInt .u64) (.tmp 24)⟩,
    ⟨some 26, none, .bin .shl (.tmp 25) (.const (.int .u64 32))⟩,
    ⟨some 27, none, .mov (.tmp 0)⟩,
    ⟨some 28, none, .mov (.tmp 5)⟩,
    ⟨some 29, none, .bin .sub (.tmp 28) (.const (.int .i64 1))⟩,
    ⟨some 30, none, .iaddr 1 (.tmp 27) (.tmp 29)⟩,
    ⟨some 31, none, .load false 1 (.tmp 30)⟩,
    ⟨some 32, none, .conv (.toInt .u64) (.tmp 31)⟩,
    ⟨some 33, none, .bin .or (.tmp 26) (.tmp 32)⟩,
    ⟨some 6, none, .mov (.tmp 33)⟩] (some ⟨[(3, 10)], [[], [], [], [], [], [], [], [], [], [], [], [], [], []]⟩)) <|
  .seq (.region [⟨some 34, none, .mov (.tmp 6)⟩,
    ⟨some 35, none, .mov (.tmp 1)⟩,
    ⟨some 36, none, .mov (.tmp 5)⟩,
    ⟨some 37, none, .bin .sub (.tmp 36) (.const (.int .i64 1))⟩,
    ⟨some 38, none, .iaddr 1 (.tmp 35) (.tmp 37)⟩,
    ⟨some 39, none, .load false 1 (.tmp 38)⟩,
    ⟨some 40, none, .conv (.toInt .u64) (.tmp 39)⟩,
    ⟨some 41, none, .bin .quo (.tmp 34) (.tmp 40)⟩,
    ⟨some 42, none, .mov (.tmp 6)⟩,
    ⟨some 43, none, .mov (.tmp 1)⟩,
    ⟨some 44, none, .mov (.tmp 5)⟩,
    ⟨some 45, none, .bin .sub (.tmp 44) (.const (.int .i64 1))⟩,
    ⟨some 46, none, .iaddr 1 (.tmp 43) (.tmp 45)⟩,
    ⟨some 47, none, .load false 1 (.tmp 46)⟩,
    ⟨some 48, none, .conv (.toInt .u64) (.tmp 47)⟩,
    ⟨some 49, none, .bin .rem (.tmp 42) (.tmp 48)⟩,
    ⟨some 7, none, .mov (.tmp 41)⟩,
    ⟨some 8, none, .mov (.tmp 49)⟩] (some ⟨[(5, 13)], [[], [], [], [], [], [], [], [], [], [], [], [], [], [], [], [], [], []]⟩)) <|
  .seq (.block 0 <|
  .loop <|
  .seq (.seq (.region [⟨some 50, none, .mov (.tmp 7)⟩,
    ⟨some 51, none, .bin .shr (.tmp 50) (.const (.int .u64 32))⟩,
    ⟨some 52, none, .bin .neq (.tmp 51) (.const (.int .u64 0))⟩,
    ⟨some 53, none, .mov (.tmp 52)⟩,
    ⟨some 54, some (53, false), .mov (.tmp 7)⟩,
    ⟨some 55, some (53, false), .mov (.tmp 1)⟩,
    ⟨some 56, some (53, false), .mov (.tmp 5)⟩,
    ⟨some 57, some (53, false), .bin .sub (.tmp 56) (.const (.int .i64 2))⟩,
    ⟨some 58, some (53, false), .iaddr 1 (.tmp 55) (.tmp 57)⟩,
    ⟨some 59, some (53, false), .load false 1 (.tmp 58)⟩,
    ⟨some 60, some (53, false), .conv (.toInt .u64) (.tmp 59)⟩,
    ⟨some 61, some (53, false), .bin .mul (.tmp 54) (.tmp 60)⟩,
    ⟨some 62, some (53, false), .mov (.tmp 8)⟩,
    ⟨some 63, some (53, false), .bin .shl (.tmp 62) (.const (.int .u64 32))⟩,
    ⟨some 64, some (53, false), .mov (.tmp 0)⟩,
    ⟨some 65, some (53, false), .mov (.tmp 5)⟩,
    ⟨some 66, some (53, false), .bin .sub (.tmp 65) (.const (.int .i64 2))⟩,
    ⟨some 67, some (53, false), .iaddr 1 (.tmp 64) (.tmp 66)⟩,
    ⟨some 68, some (53, false), .load false 1 (.tmp 67)⟩,
    ⟨some 69, some (53, false), .conv (.toInt .u64) (.tmp 68)⟩,
    ⟨some 70, some (53, false), .bin .or (.tmp 63) (.tmp 69)⟩,
    ⟨some 71, some (53, false), .bin .gtr (.tmp 61) (.tmp 70)⟩,
    ⟨some 72, none, .pick (.tmp 53) (.const (.bool true)) (.tmp 71)⟩] (some ⟨[(9, 18)], [[], [], [], [], [], [], [], [], [], [], [], [], [], [], [], [], [], [], [], [], [], [], []]⟩)) <|
  .cond (.tmp 72)
   (.skip)
   (.exit 0)) <|
  .block 1 <|
  .seq (.region [⟨some 73, none, .mov (.tmp 7)⟩,
    ⟨some 74, none, .bin .sub (.tmp 73) (.const (.int .u64 1))⟩,
    ⟨some 7, none, .mov (.tmp 74)⟩] none) <|
  .seq (.region [⟨some 75, none, .mov (.tmp 8)⟩,
    ⟨some 76, none, .mov (.tmp 1)⟩,
    ⟨some 77, none, .mov (.tmp 5)⟩,
    ⟨some 78, none, .bin .sub (.tmp 77) (.const (.int .i64 1))⟩,
    ⟨some 79, none, .iaddr 1 (.tmp 76) (.tmp 78)⟩,
    ⟨some 80, none, .load false 1 (.tmp 79)⟩,
    ⟨some 81, none, .conv (.toInt .u64) (.tmp 80)⟩,
    ⟨some 82, none, .bin .add (.tmp 75) (.tmp 81)⟩,
    ⟨some 8, none, .mov (.tmp 82)⟩] none) <|
  .seq (.region [⟨some 83, none, .mov (.tmp 8)⟩,
    ⟨some 84, none, .bin .shr (.tmp 83) (.const (.int .u64 32))⟩,
    ⟨some 85, none, .bin .neq (.tmp 84) (.const (.int .u64 0))⟩] none) <|
  .cond (.tmp 85)
   (.exit 0)
   (.skip)) <|
  .seq (.region [⟨some 9, none, .mov (.const (.int .u64 0))⟩,
    ⟨some 10, none, .mov (.const (.int .u64 0))⟩] none) <|
  .seq (.seq (.region [⟨some 86, none, .mov (.tmp 1)⟩,
    ⟨some 87, none, .len 1 (.tmp 86)⟩,
    ⟨some 88, none, .mov (.const (.int .i64 0))⟩] none) <|
  .block 2 <|
  .loop <|
  .seq (.region [⟨some 89, none, .bin .lss (.tmp 88) (.tmp 87)⟩] none) <|
  .seq (.cond (.tmp 89)
   (.skip)
   (.exit 2)) <|
  .seq (.block 3 <|
  .seq (.region [⟨some 90, none, .mov (.tmp 88)⟩,
    ⟨some 91, none, .iaddr 1 (.tmp 86) (.tmp 88)⟩,
    ⟨some 92, none, .load false 1 (.tmp 91)⟩,
    ⟨some 11, none, .mov (.tmp 90)⟩,
    ⟨some 12, none, .mov (.tmp 92)⟩] none) <|
  .seq (.region [⟨some 93, none, .mov (.tmp 7)⟩,
    ⟨some 94, none, .mov (.tmp 12)⟩,
    ⟨some 95, none, .conv (.toInt .u64) (.tmp 94)⟩,
    ⟨some 96, none, .bin .mul (.tmp 93) (.tmp 95)⟩,
    ⟨some 97, none, .mov (.tmp 10)⟩,
    ⟨some 98, none, .bin .add (.tmp 96) (.tmp 97)⟩,
    ⟨some 13, none, .mov (.tmp 98)⟩] none) <|
  .seq (.region [⟨some 99, none, .mov (.tmp 13)⟩,
    ⟨some 100, none, .bin .shr (.tmp 99) (.const (.int .u64 32))⟩,
    ⟨some 10, none, .mov (.tmp 100)⟩] none) <|
  .seq (.region [⟨some 101, none, .mov (.tmp 0)⟩,
    ⟨some 102, none, .mov (.tmp 11)⟩,
    ⟨some 103, none, .iaddr 1 (.tmp 101) (.tmp 102)⟩,
    ⟨some 104, none, .load false 1 (.tmp 103)⟩,
    ⟨some 105, none, .conv (.toInt .u64) (.tmp 104)⟩,
    ⟨some 106, none, .mov (.tmp 13)⟩,
    ⟨some 107, none, .conv (.toInt .u32) (.tmp 106)⟩,
    ⟨some 108, none, .conv (.toInt .u64) (.tmp 107)⟩,
    ⟨some 109, none, .bin .sub (.tmp 105) (.tmp 108)⟩,
    ⟨some 110, none, .mov (.tmp 9)⟩,
    ⟨some 111, none, .bin .sub (.tmp 109) (.tmp 110)⟩,
    ⟨some 14, none, .mov (.tmp 111)⟩] none) <|
  .seq (.region [⟨some 112, none, .mov (.tmp 0)⟩,
    ⟨some 113, none, .mov (.tmp 11)⟩,
    ⟨some 114, none, .mov (.tmp 14)⟩,
    ⟨some 115, none, .conv (.toInt .u32) (.tmp 114)⟩,
    ⟨some 116, none, .iaddr 1 (.tmp 112) (.tmp 113)⟩,
    ⟨none, none, .store 1 (.tmp 116) (.tmp 115)⟩] none) <|
  .region [⟨some 117, none, .mov (.tmp 14)⟩,
    ⟨some 118, none, .bin .shr (.tmp 117) (.const (.int .u64 63))⟩,
    ⟨some 9, none, .mov (.tmp 118)⟩] none) <|
  .region [⟨some 119, none, .bin .add (.tmp 88) (.const (.int .i64 1))⟩,
    ⟨some 88, none, .mov (.tmp 119)⟩] none) <|
  .seq (.region [⟨some 120, none, .mov (.tmp 0)⟩,
    ⟨some 121, none, .mov (.tmp 5)⟩,
    ⟨some 122, none, .iaddr 1 (.tmp 120) (.tmp 121)⟩,
    ⟨some 123, none, .load false 1 (.tmp 122)⟩,
    ⟨some 124, none, .conv (.toInt .u64) (.tmp 123)⟩,
    ⟨some 125, none, .mov (.tmp 10)⟩,
    ⟨some 126, none, .bin .sub (.tmp 124) (.tmp 125)⟩,
    ⟨some 127, none, .mov (.tmp 9)⟩,
    ⟨some 128, none, .bin .sub (.tmp 126) (.tmp 127)⟩,
    ⟨some 15, none, .mov (.tmp 128)⟩] none) <|
  .seq (.region [⟨some 129, none, .mov (.tmp 0)⟩,
    ⟨some 130, none, .mov (.tmp 5)⟩,
    ⟨some 131, none, .mov (.tmp 15)⟩,
    ⟨some 132, none, .conv (.toInt .u32) (.tmp 131)⟩,
    ⟨some 133, none, .iaddr 1 (.tmp 129) (.tmp 130)⟩,
    ⟨none, none, .store 1 (.tmp 133) (.tmp 132)⟩] none) <|
  .seq (.seq (.region [⟨some 134, none, .mov (.tmp 15)⟩,
    ⟨some 135, none, .bin .shr (.tmp 134) (.const (.int .u64 63))⟩,
    ⟨some 136, none, .bin .eql (.tmp 135) (.const (.int .u64 0))⟩] none) <|
  .cond (.tmp 136)
   (.seq (.region [⟨some 137, none, .mov (.tmp 7)⟩,
     ⟨some 138, none, .conv (.toInt .u32) (.tmp 137)⟩,
     ⟨some 4, none, .mov (.tmp 138)⟩] none) <|
   .ret)
   (.skip)) <|
  .seq (.region [⟨some 10, none, .mov (.const (.int .u64 0))⟩] none) <|
  .seq (.seq (.region [⟨some 139, none, .mov (.tmp 1)⟩,
    ⟨some 140, none, .len 1 (.tmp 139)⟩,
    ⟨some 141, none, .mov (.const (.int .i64 0))⟩] none) <|
  .block 4 <|
  .loop <|
  .seq (.region [⟨some 142, none, .bin .lss (.tmp 141) (.tmp 140)⟩] none) <|
  .seq (.cond (.tmp 142)
   (.skip)
   (.exit 4)) <|
  .seq (.block 5 <|
  .seq (.region [⟨some 143, none, .mov (.tmp 141)⟩,
    ⟨some 144, none, .iaddr 1 (.tmp 139) (.tmp 141)⟩,
    ⟨some 145, none, .load false 1 (.tmp 144)⟩,
    ⟨some 16, none, .mov (.tmp 143)⟩,
    ⟨some 17, none, .mov (.tmp 145)⟩] none) <|
  .seq (.region [⟨some 146, none, .mov (.tmp 0)⟩,
    ⟨some 147, none, .mov (.tmp 16)⟩,
    ⟨some 148, none, .iaddr 1 (.tmp 146) (.tmp 147)⟩,
    ⟨some 149, none, .load false 1 (.tmp 148)⟩,
    ⟨some 150, none, .conv (.toInt .u64) (.tmp 149)⟩,
    ⟨some 151, none, .mov (.tmp 17)⟩,
    ⟨some 152, none, .conv (.toInt .u64) (.tmp 151)⟩,
    ⟨some 153, none, .bin .add (.tmp 150) (.tmp 152)⟩,
    ⟨some 154, none, .mov (.tmp 10)⟩,
    ⟨some 155, none, .bin .add (.tmp 153) (.tmp 154)⟩,
    ⟨some 18, none, .mov (.tmp 155)⟩] none) <|
  .seq (.region [⟨some 156, none, .mov (.tmp 0)⟩,
    ⟨some 157, none, .mov (.tmp 16)⟩,
    ⟨some 158, none, .mov (.tmp 18)⟩,
    ⟨some 159, none, .conv (.toInt .u32) (.tmp 158)⟩,
    ⟨some 160, none, .iaddr 1 (.tmp 156) (.tmp 157)⟩,
    ⟨none, none, .store 1 (.tmp 160) (.tmp 159)⟩] none) <|
  .region [⟨some 161, none, .mov (.tmp 18)⟩,
    ⟨some 162, none, .bin .shr (.tmp 161) (.const (.int .u64 32))⟩,
    ⟨some 10, none, .mov (.tmp 162)⟩] none) <|
  .region [⟨some 163, none, .bin .add (.tmp 141) (.const (.int .i64 1))⟩,
    ⟨some 141, none, .mov (.tmp 163)⟩] none) <|
  .seq (.region [⟨some 164, none, .mov (.tmp 0)⟩,
    ⟨some 165, none, .mov (.tmp 5)⟩,
    ⟨some 166, none, .iaddr 1 (.tmp 164) (.tmp 165)⟩,
    ⟨some 167, none, .load false 1 (.tmp 166)⟩,
    ⟨some 168, none, .mov (.tmp 10)⟩,
    ⟨some 169, none, .conv (.toInt .u32) (.tmp 168)⟩,
    ⟨some 170, none, .bin .add (.tmp 167) (.tmp 169)⟩,
    ⟨some 171, none, .iaddr 1 (.tmp 164) (.tmp 165)⟩,
    ⟨none, none, .store 1 (.tmp 171) (.tmp 170)⟩] none) <|
  .seq (.region [⟨some 172, none, .mov (.tmp 7)⟩,
    ⟨some 173, none, .bin .sub (.tmp 172) (.const (.int .u64 1))⟩,
    ⟨some 174, none, .conv (.toInt .u32) (.tmp 173)⟩,
    ⟨some 4, none, .mov (.tmp 174)⟩] none) <|
  .ret⟩
def fn_word_Nat_GCD : AFn := ⟨19, [.tmp 4], false,
  .seq (.region [⟨some 4, none, .mov (.const (.nils))⟩] none) <|
  .seq (.block 0 <|
  .loop <|
  .seq (.seq (.region [⟨some 7, none, .mov (.tmp 1)⟩,
    ⟨some 8, none, .len 1 (.tmp 7)⟩,
    ⟨some 9, none, .bin .gtr (.tmp 8) (.const (.int .i64 0))⟩] none) <|
  .cond (.tmp 9)
   (.skip)
   (.exit 0)) <|
  .block 1 <|
  .seq (.region [⟨some 11, none, .mov (.tmp 0)⟩,
    ⟨some 12, none, .mov (.tmp 1)⟩,
    ⟨some 13, none, .callf id_word_Nat_Div [.tmp 11, .tmp 12]⟩,
    ⟨some 10, none, .mov (.tmp 13)⟩,
    ⟨some 14, none, .extract (.tmp 10) 0⟩,
    ⟨some 15, none, .extract (.tmp 10) 1⟩,
    ⟨some 5, none, .mov (.tmp 14)⟩,
    ⟨some 6, none, .mov (.tmp 15)⟩] none) <|
  .region [⟨some 16, none, .mov (.tmp 1)⟩,
    ⟨some 17, none, .mov (.tmp 6)⟩,
    ⟨some 0, none, .mov (.tmp 16)⟩,
    ⟨some 1, none, .mov (.tmp 17)⟩] none) <|
  .seq (.region [⟨some 18, none, .mov (.tmp 0)⟩,
    ⟨some 4, none, .mov (.tmp 18)⟩] none) <|
  .ret⟩
def fn_word_Nat_Pow : AFn := ⟨23, [.tmp 4], false,
  .seq (.region [⟨some 4, none, .mov (.const (.nils))⟩] none) <|
  .seq (.region [⟨some 6, none, .callf id_word_Small [.const (.int .u64 1)]⟩,
    ⟨some 5, none, .mov (.tmp 6)⟩] none) <|
  .seq (.block 0 <|
  .loop <|
  .seq (.seq (.region [⟨some 7, none, .mov (.tmp 1)⟩,
    ⟨some 8, none, .bin .gtr (.tmp 7) (.const (.int .i64 0))⟩] none) <|
  .cond (.tmp 8)
   (.skip)
   (.exit 0)) <|
  .seq (.block 1 <|
  .seq (.seq (.region [⟨some 11, none, .mov (.tmp 1)⟩,
    ⟨some 12, none, .bin .and (.tmp 11) (.const (.int .i64 1))⟩,
    ⟨some 13, none, .bin .eql (.tmp 12) (.const (.int .i64 1))⟩] none) <|
  .cond (.tmp 13)
   (.region [⟨some 14, none, .mov (.tmp 5)⟩,
     ⟨some 15, none, .mov (.tmp 0)⟩,
     ⟨some 16, none, .callf id_word_Nat_Mul [.tmp 14, .tmp 15]⟩,
     ⟨some 5, none, .mov (.tmp 16)⟩] none)
   (.skip)) <|
  .seq (.region [⟨some 17, none, .mov (.tmp 1)⟩,
    ⟨some 18, none, .bin .gtr (.tmp 17) (.const (.int .i64 1))⟩] none) <|
  .cond (.tmp 18)
   (.region [⟨some 19, none, .mov (.tmp 0)⟩,
     ⟨some 20, none, .mov (.tmp 0)⟩,
     ⟨some 21, none, .callf id_word_Nat_Mul [.tmp 19, .tmp 20]⟩,
     ⟨some 0, none, .mov (.tmp 21)⟩] none)
   (.skip)) <|
  .region [⟨some 9, none, .mov (.tmp 1)⟩,
    ⟨some 10, none, .bin .shr (.tmp 9) (.const (.int .u64 1))⟩,
    ⟨some 1, none, .mov (.tmp 10)⟩] none) <|
  .seq (.region [⟨some 22, none, .mov (.tmp 5)⟩,
    ⟨some 4, none, .mov (.tmp 22)⟩] none) <|
  .ret⟩
def fn_word_Reduce : AFn := ⟨54, [.cell 6 true 3], false,
  .seq (.region [⟨some 6, none, .alloc 217 3 [.bool false, .nils, .nils]⟩] none) <|
  .seq (.seq (.region [⟨some 9, none, .mov (.tmp 1)⟩,
    ⟨some 10, none, .callf id_word_Nat_Zero [.tmp 9]⟩] none) <|
  .cond (.tmp 10)
   (.seq (.region [⟨some 11, none, .callf id_word_Small [.const (.int .u64 1)]⟩,
     ⟨some 12, none, .build [.bool false, .nils, .nils] [(2, 1, (.tmp 11))]⟩,
     ⟨none, none, .store 3 (.tmp 6) (.tmp 12)⟩] none) <|
   .ret)
   (.skip)) <|
  .seq (.seq (.region [⟨some 13, none, .mov (.tmp 1)⟩,
    ⟨some 14, none, .callf id_word_Nat_Twos [.tmp 13]⟩,
    ⟨some 15, none, .mov (.tmp 2)⟩,
    ⟨some 16, none, .callf id_word_Nat_Twos [.tmp 15]⟩,
    ⟨some 17, none, .minmax false [.tmp 14, .tmp 16]⟩,
    ⟨some 7, none, .mov (.tmp 17)⟩] none) <|
  .seq (.region [⟨some 18, none, .mov (.tmp 7)⟩,
    ⟨some 19, none, .bin .gtr (.tmp 18) (.const (.int .i64 0))⟩] none) <|
  .cond (.tmp 19)
   (.region [⟨some 20, none, .mov (.tmp 1)⟩,
     ⟨some 21, none, .mov (.tmp 7)⟩,
     ⟨some 22, none, .callf id_word_Nat_Shr [.tmp 20, .tmp 21]⟩,
     ⟨some 23, none, .mov (.tmp 2)⟩,
     ⟨some 24, none, .mov (.tmp 7)⟩,
     ⟨some 25, none, .callf id_word_Nat_Shr [.tmp 23, .tmp 24]⟩,
     ⟨some 1, none, .mov (.tmp 22)⟩,
     ⟨some 2, none, .mov (.tmp 25)⟩] none)
   (.skip)) <|
  .seq (.seq (.region [⟨some 26, none, .mov (.tmp 2)⟩,
    ⟨some 27, none, .callf id_word_Nat_Twos [.tmp 26]⟩,
    ⟨some 28, none, .mov (.tmp 2)⟩,
    ⟨some 29, none, .callf id_word_Nat_Bits [.tmp 28]⟩,
    ⟨some 30, none, .bin .sub (.tmp 29) (.const (.int .i64 1))⟩,
    ⟨some 31, none, .bin .neq (.tmp 27) (.tmp 30)⟩] none) <|
  .cond (.tmp 31)
   (.seq (.region [⟨some 32, none, .mov (.tmp 1)⟩,
     ⟨some 33, none, .mov (.tmp 2)⟩,
     ⟨some 34, none, .callf id_word_Nat_GCD [.tmp 32, .tmp 33]⟩,
     ⟨some 8, none, .mov (.tmp 34)⟩] none) <|
   .seq (.region [⟨some 35, none, .mov (.tmp 8)⟩,
     ⟨some 36, none, .callf id_word_Nat_One [.tmp 35]⟩,
     ⟨some 37, none, .un .not (.tmp 36)⟩] none) <|
   .cond (.tmp 37)
    (.seq (.region [⟨some 39, none, .mov (.tmp 1)⟩,
      ⟨some 40, none, .mov (.tmp 8)⟩,
      ⟨some 41, none, .callf id_word_Nat_Div [.tmp 39, .tmp 40]⟩,
      ⟨some 38, none, .mov (.tmp 41)⟩,
      ⟨some 42, none, .extract (.tmp 38) 0⟩,
      ⟨some 43, none, .extract (.tmp 38) 1⟩,
      ⟨some 1, none, .mov (.tmp 42)⟩] none) <|
    .region [⟨some 45, none, .mov (.tmp 2)⟩,
      ⟨some 46, none, .mov (.tmp 8)⟩,
      ⟨some 47, none, .callf id_word_Nat_Div [.tmp 45, .tmp 46]⟩,
      ⟨some 44, none, .mov (.tmp 47)⟩,
      ⟨some 48, none, .extract (.tmp 44) 0⟩,
      ⟨some 49, none, .extract (.tmp 44) 1⟩,
      ⟨some 2, none, .mov (.tmp 48)⟩] none)
    (.skip))
   (.skip)) <|
  .seq (.region [⟨some 50, none, .mov (.tmp 0)⟩,
    ⟨some 51, none, .mov (.tmp 1)⟩,
    ⟨some 52, none, .mov (.tmp 2)⟩,
    ⟨some 53, none, .build [.bool false, .nils, .nils] [(0, 1, (.tmp 50)), (1, 1, (.tmp 51)), (2, 1, (.tmp 52))]⟩,
    ⟨none, none, .store 3 (.tmp 6) (.tmp 53)⟩] none) <|
  .ret⟩
def fn_word_Read : AFn := ⟨33, [.cell 2 true 3, .tmp 3], false,
  .seq (.region [⟨some 1, none, .box 24 3 (.tmp 0)⟩,
    ⟨some 2, none, .alloc 217 3 [.bool false, .nils, .nils]⟩,
    ⟨some 3, none, .mov (.const (.bool false))⟩] none) <|
  .seq (.region [⟨some 7, none, .faddr 1 (.tmp 1)⟩,
    ⟨some 8, none, .load false 1 (.tmp 7)⟩,
    ⟨some 9, none, .callf id_word_Of [.tmp 8]⟩,
    ⟨some 10, none, .faddr 2 (.tmp 1)⟩,
    ⟨some 11, none, .load false 1 (.tmp 10)⟩,
    ⟨some 12, none, .callf id_word_Of [.tmp 11]⟩,
    ⟨some 4, none, .mov (.tmp 9)⟩,
    ⟨some 5, none, .mov (.tmp 12)⟩] (some ⟨[(1, 4), (2, 4)], [[], [], [3, 4], [], [], [], [], []]⟩)) <|
  .seq (.seq (.region [⟨some 13, none, .mov (.tmp 4)⟩,
    ⟨some 14, none, .len 1 (.tmp 13)⟩,
    ⟨some 15, none, .bin .gtr (.tmp 14) (.const (.int .i64 256))⟩,
    ⟨some 16, none, .mov (.tmp 15)⟩,
    ⟨some 17, some (16, false), .mov (.tmp 5)⟩,
    ⟨some 18, some (16, false), .len 1 (.tmp 17)⟩,
    ⟨some 19, some (16, false), .bin .gtr (.tmp 18) (.const (.int .i64 256))⟩,
    ⟨some 20, none, .pick (.tmp 16) (.const (.bool true)) (.tmp 19)⟩] none) <|
  .cond (.tmp 20)
   (.seq (.region [⟨some 21, none, .build [.bool false, .nils, .nils] []⟩,
     ⟨none, none, .store 3 (.tmp 2) (.tmp 21)⟩,
     ⟨some 3, none, .mov (.const (.bool false))⟩] none) <|
   .ret)
   (.skip)) <|
  .seq (.seq (.region [⟨some 22, none, .mov (.tmp 5)⟩,
    ⟨some 23, none, .callf id_word_Nat_Zero [.tmp 22]⟩] none) <|
  .cond (.tmp 23)
   (.region [⟨some 24, none, .callf id_word_Small [.const (.int .u64 1)]⟩,
     ⟨some 5, none, .mov (.tmp 24)⟩] none)
   (.skip)) <|
  .seq (.region [⟨some 25, none, .faddr 0 (.tmp 1)⟩,
    ⟨some 26, none, .load false 1 (.tmp 25)⟩,
    ⟨some 27, none, .mov (.tmp 4)⟩,
    ⟨some 28, none, .mov (.tmp 5)⟩,
    ⟨some 29, none, .callf id_word_Reduce [.tmp 26, .tmp 27, .tmp 28]⟩,
    ⟨some 6, none, .alloc 217 3 [.bool false, .nils, .nils]⟩,
    ⟨none, none, .store 3 (.tmp 6) (.tmp 29)⟩] none) <|
  .seq (.region [⟨some 30, none, .load true 3 (.tmp 6)⟩,
    ⟨some 31, none, .load true 3 (.tmp 6)⟩,
    ⟨some 32, none, .callf id_word_Frac_Fits [.tmp 31]⟩,
    ⟨none, none, .store 3 (.tmp 2) (.tmp 30)⟩,
    ⟨some 3, none, .mov (.tmp 32)⟩] (some ⟨[(0, 1), (0, 2)], [[], [], [0], [], []]⟩)) <|
  .ret⟩
def fn_word_Frac_Fits : AFn := ⟨13, [.tmp 2], false,
  .seq (.region [⟨some 1, none, .box 217 3 (.tmp 0)⟩,
    ⟨some 2, none, .mov (.const (.bool false))⟩] none) <|
  .seq (.region [⟨some 3, none, .faddr 1 (.tmp 1)⟩,
    ⟨some 4, none, .load false 1 (.tmp 3)⟩,
    ⟨some 5, none, .len 1 (.tmp 4)⟩,
    ⟨some 6, none, .bin .leq (.tmp 5) (.const (.int .i64 64))⟩,
    ⟨some 7, none, .mov (.tmp 6)⟩,
    ⟨some 8, some (7, true), .faddr 2 (.tmp 1)⟩,
    ⟨some 9, some (7, true), .load false 1 (.tmp 8)⟩,
    ⟨some 10, some (7, true), .len 1 (.tmp 9)⟩,
    ⟨some 11, some (7, true), .bin .leq (.tmp 10) (.const (.int .i64 64))⟩,
    ⟨some 12, none, .pick (.tmp 7) (.tmp 11) (.const (.bool false))⟩,
    ⟨some 2, none, .mov (.tmp 12)⟩] none) <|
  .ret⟩
def fn_word_Frac_Sign : AFn := ⟨10, [.tmp 2], false,
  .seq (.region [⟨some 1, none, .box 217 3 (.tmp 0)⟩,
    ⟨some 2, none, .mov (.const (.int .i64 0))⟩] none) <|
  .seq (.block 0 <|
  .seq (.region [⟨some 4, none, .faddr 1 (.tmp 1)⟩,
    ⟨some 5, none, .load false 1 (.tmp 4)⟩,
    ⟨some 6, none, .callf id_word_Nat_Zero [.tmp 5]⟩,
    ⟨some 3, none, .mov (.tmp 6)⟩] none) <|
  .cond (.tmp 3)
   (.seq (.region [⟨some 2, none, .mov (.const (.int .i64 0))⟩] none) <|
   .ret)
   (.seq (.region [⟨some 8, none, .faddr 0 (.tmp 1)⟩,
     ⟨some 9, none, .load false 1 (.tmp 8)⟩,
     ⟨some 7, none, .mov (.tmp 9)⟩] none) <|
   .cond (.tmp 7)
    (.seq (.region [⟨some 2, none, .mov (.const (.int .i64 (-1)))⟩] none) <|
    .ret)
    (.skip))) <|
  .seq (.region [⟨some 2, none, .mov (.const (.int .i64 1))⟩] none) <|
  .ret⟩
def fn_word_Frac_Cmp : AFn := ⟨32, [.tmp 4], false,
  .seq (.region [⟨some 2, none, .box 217 3 (.tmp 0)⟩,
    ⟨some 3, none, .box 217 3 (.tmp 1)⟩,
    ⟨some 4, none, .mov (.const (.int .i64 0))⟩] none) <|
  .seq (.seq (.region [⟨some 6, none, .load true 3 (.tmp 2)⟩,
    ⟨some 7, none, .callf id_word_Frac_Sign [.tmp 6]⟩,
    ⟨some 8, none, .load true 3 (.tmp 3)⟩,
    ⟨some 9, none, .callf id_word_Frac_Sign [.tmp 8]⟩,
    ⟨some 10, none, .bin .neq (.tmp 7) (.tmp 9)⟩] (some ⟨[(0, 2), (1, 2)], [[], [2], [], [], []]⟩)) <|
  .cond (.tmp 10)
   (.seq (.seq (.region [⟨some 11, none, .load true 3 (.tmp 2)⟩,
     ⟨some 12, none, .callf id_word_Frac_Sign [.tmp 11]⟩,
     ⟨some 13, none, .load true 3 (.tmp 3)⟩,
     ⟨some 14, none, .callf id_word_Frac_Sign [.tmp 13]⟩,
     ⟨some 15, none, .bin .lss (.tmp 12) (.tmp 14)⟩] (some ⟨[(0, 2), (1, 2)], [[], [2], [], [], []]⟩)) <|
   .cond (.tmp 15)
    (.seq (.region [⟨some 4, none, .mov (.const (.int .i64 (-1)))⟩] none) <|
    .ret)
    (.skip)) <|
   .seq (.region [⟨some 4, none, .mov (.const (.int .i64 1))⟩] none) <|
   .ret)
   (.skip)) <|
  .seq (.region [⟨some 16, none, .faddr 1 (.tmp 2)⟩,
    ⟨some 17, none, .load false 1 (.tmp 16)⟩,
    ⟨some 18, none, .faddr 2 (.tmp 3)⟩,
    ⟨some 19, none, .load false 1 (.tmp 18)⟩,
    ⟨some 20, none, .callf id_word_Nat_Mul [.tmp 17, .tmp 19]⟩,
    ⟨some 21, none, .faddr 1 (.tmp 3)⟩,
    ⟨some 22, none, .load false 1 (.tmp 21)⟩,
    ⟨some 23, none, .faddr 2 (.tmp 2)⟩,
    ⟨some 24, none, .load false 1 (.tmp 23)⟩,
    ⟨some 25, none, .callf id_word_Nat_Mul [.tmp 22, .tmp 24]⟩,
    ⟨some 26, none, .callf id_word_Nat_Cmp [.tmp 20, .tmp 25]⟩,
    ⟨some 5, none, .mov (.tmp 26)⟩] (some ⟨[(1, 3), (1, 6), (3, 6), (4, 6), (1, 8), (3, 8), (4, 8), (6, 8)], [[], [], [], [], [5, 6, 7, 8], [], [], [], [], [], [], []]⟩)) <|
  .seq (.seq (.region [⟨some 27, none, .faddr 0 (.tmp 2)⟩,
    ⟨some 28, none, .load false 1 (.tmp 27)⟩] none) <|
  .cond (.tmp 28)
   (.seq (.region [⟨some 29, none, .mov (.tmp 5)⟩,
     ⟨some 30, none, .un .neg (.tmp 29)⟩,
     ⟨some 4, none, .mov (.tmp 30)⟩] none) <|
   .ret)
   (.skip)) <|
  .seq (.region [⟨some 31, none, .mov (.tmp 5)⟩,
    ⟨some 4, none, .mov (.tmp 31)⟩] none) <|
  .ret⟩
def fn_word_Frac_Opposite : AFn := ⟨14, [.cell 2 true 3], false,
  .seq (.region [⟨some 1, none, .box 217 3 (.tmp 0)⟩,
    ⟨some 2, none, .alloc 217 3 [.bool false, .nils, .nils]⟩] none) <|
  .seq (.region [⟨some 3, none, .faddr 0 (.tmp 1)⟩,
    ⟨some 4, none, .load false 1 (.tmp 3)⟩,
    ⟨some 5, none, .un .not (.tmp 4)⟩,
    ⟨some 6, none, .mov (.tmp 5)⟩,
    ⟨some 7, some (6, true), .faddr 1 (.tmp 1)⟩,
    ⟨some 8, some (6, true), .load false 1 (.tmp 7)⟩,
    ⟨some 9, some (6, true), .callf id_word_Nat_Zero [.tmp 8]⟩,
    ⟨some 10, some (6, true), .un .not (.tmp 9)⟩,
    ⟨some 11, none, .pick (.tmp 6) (.tmp 10) (.const (.bool false))⟩,
    ⟨some 12, none, .faddr 0 (.tmp 1)⟩,
    ⟨none, none, .store 1 (.tmp 12) (.tmp 11)⟩] none) <|
  .seq (.region [⟨some 13, none, .load true 3 (.tmp 1)⟩,
    ⟨none, none, .store 3 (.tmp 2) (.tmp 13)⟩] none) <|
  .ret⟩
def fn_word_Frac_Give : AFn := ⟨24, [.cell 2 true 3, .tmp 3], false,
  .seq (.region [⟨some 1, none, .box 217 3 (.tmp 0)⟩,
    ⟨some 2, none, .alloc 24 3 [.bool false, .nils, .nils]⟩,
    ⟨some 3, none, .mov (.const (.int .i64 0))⟩] none) <|
  .seq (.seq (.region [⟨some 5, none, .load true 3 (.tmp 1)⟩,
    ⟨some 6, none, .callf id_word_Frac_Fits [.tmp 5]⟩,
    ⟨some 7, none, .un .not (.tmp 6)⟩] none) <|
  .cond (.tmp 7)
   (.seq (.region [⟨some 8, none, .build [.bool false, .nils, .nils] []⟩,
     ⟨none, none, .store 3 (.tmp 2) (.tmp 8)⟩,
     ⟨some 3, none, .mov (.const (.int .i64 1))⟩] none) <|
   .ret)
   (.skip)) <|
  .seq (.region [⟨some 9, none, .faddr 0 (.tmp 1)⟩,
    ⟨some 10, none, .load false 1 (.tmp 9)⟩,
    ⟨some 11, none, .faddr 1 (.tmp 1)⟩,
    ⟨some 12, none, .load false 1 (.tmp 11)⟩,
    ⟨some 13, none, .callf id_slices_Clone_uint32 [.tmp 12]⟩,
    ⟨some 14, none, .build [.bool false, .nils, .nils] [(0, 1, (.tmp 10)), (1, 1, (.tmp 13))]⟩,
    ⟨some 4, none, .alloc 24 3 [.bool false, .nils, .nils]⟩,
    ⟨none, none, .store 3 (.tmp 4) (.tmp 14)⟩] (some ⟨[(1, 3), (1, 4), (1, 6), (3, 6), (4, 6)], [[], [], [], [], [0, 1, 6], [], [], []]⟩)) <|
  .seq (.seq (.region [⟨some 15, none, .faddr 2 (.tmp 1)⟩,
    ⟨some 16, none, .load false 1 (.tmp 15)⟩,
    ⟨some 17, none, .callf id_word_Nat_One [.tmp 16]⟩,
    ⟨some 18, none, .un .not (.tmp 17)⟩] none) <|
  .cond (.tmp 18)
   (.region [⟨some 19, none, .faddr 2 (.tmp 1)⟩,
     ⟨some 20, none, .load false 1 (.tmp 19)⟩,
     ⟨some 21, none, .callf id_slices_Clone_uint32 [.tmp 20]⟩,
     ⟨some 22, none, .faddr 2 (.tmp 4)⟩,
     ⟨none, none, .store 1 (.tmp 22) (.tmp 21)⟩] none)
   (.skip)) <|
  .seq (.region [⟨some 23, none, .load true 3 (.tmp 4)⟩,
    ⟨none, none, .store 3 (.tmp 2) (.tmp 23)⟩,
    ⟨some 3, none, .mov (.const (.int .i64 0))⟩] none) <|
  .ret⟩
def fn_word_Int : AFn := ⟨16, [.cell 2 true 3], false,
  .seq (.region [⟨some 2, none, .alloc 217 3 [.bool false, .nils, .nils]⟩] none) <|
  .seq (.region [⟨some 4, none, .mov (.tmp 0)⟩,
    ⟨some 5, none, .conv (.toInt .u64) (.tmp 4)⟩,
    ⟨some 3, none, .mov (.tmp 5)⟩] none) <|
  .seq (.seq (.region [⟨some 6, none, .mov (.tmp 0)⟩,
    ⟨some 7, none, .bin .lss (.tmp 6) (.const (.int .i64 0))⟩] none) <|
  .cond (.tmp 7)
   (.region [⟨some 8, none, .mov (.tmp 3)⟩,
     ⟨some 9, none, .un .neg (.tmp 8)⟩,
     ⟨some 3, none, .mov (.tmp 9)⟩] none)
   (.skip)) <|
  .seq (.region [⟨some 10, none, .mov (.tmp 0)⟩,
    ⟨some 11, none, .bin .lss (.tmp 10) (.const (.int .i64 0))⟩,
    ⟨some 12, none, .mov (.tmp 3)⟩,
    ⟨some 13, none, .callf id_word_Small [.tmp 12]⟩,
    ⟨some 14, none, .callf id_word_Small [.const (.int .u64 1)]⟩,
    ⟨some 15, none, .build [.bool false, .nils, .nils] [(0, 1, (.tmp 11)), (1, 1, (.tmp 13)), (2, 1, (.tmp 14))]⟩,
    ⟨none, none, .store 3 (.tmp 2) (.tmp 15)⟩] none) <|
  .ret⟩
def tab_bits_Len32 : List UInt8 := [0, 1, 2, 2, 3, 3, 3, 3, 4, 4, 4, 4, 4, 4, 4, 4, 5, 5, 5, 5, 5, 5, 5, 5, 5, 5, 5, 5, 5, 5, 5, 5, 6, 6, 6, 6, 6, 6, 6, 6, 6, 6, 6, 6, 6, 6, 6, 6, 6, 6, 6, 6, 6, 6, 6, 6, 6, 6, 6, 6, 6, 6, 6, 6, 7, 7, 7, 7, 7, 7, 7, 7, 7, 7, 7, 7, 7, 7, 7, 7, 7, 7, 7, 7, 7, 7, 7, 7, 7, 7, 7, 7, 7, 7, 7, 7, 7, 7, 7, 7, 7, 7, 7, 7, 7, 7, 7, 7, 7, 7, 7, 7, 7, 7, 7, 7, 7, 7, 7, 7, 7, 7, 7, 7, 7, 7, 7, 7, 8, 8, 8, 8, 8, 8, 8, 8, 8, 8, 8, 8, 8, 8, 8, 8, 8, 8, 8, 8, 8, 8, 8, 8, 8, 8, 8, 8, 8, 8, 8, 8, 8, 8, 8, 8, 8, 8, 8, 8, 8, 8, 8, 8, 8, 8, 8, 8, 8, 8, 8, 8, 8, 8, 8, 8, 8, 8, 8, 8, 8, 8, 8, 8, 8, 8, 8, 8, 8, 8, 8, 8, 8, 8, 8, 8, 8, 8, 8, 8, 8, 8, 8, 8, 8, 8, 8, 8, 8, 8, 8, 8, 8, 8, 8, 8, 8, 8, 8, 8, 8, 8, 8, 8, 8, 8, 8, 8, 8, 8, 8, 8, 8, 8, 8, 8, 8, 8, 8, 8, 8, 8, 8, 8, 8, 8, 8, 8]
def fn_bits_Len32 : AFn := ⟨19, [.tmp 2], false,
  .seq (.region [⟨some 2, none, .mov (.const (.int .i64 0))⟩] none) <|
  .seq (.seq (.region [⟨some 3, none, .mov (.tmp 0)⟩,
    ⟨some 4, none, .bin .geq (.tmp 3) (.const (.int .u32 65536))⟩] none) <|
  .cond (.tmp 4)
   (.seq (.region [⟨some 5, none, .mov (.tmp 0)⟩,
     ⟨some 6, none, .bin .shr (.tmp 5) (.const (.int .u64 16))⟩,
     ⟨some 0, none, .mov (.tmp 6)⟩] none) <|
   .region [⟨some 2, none, .mov (.const (.int .i64 16))⟩] none)
   (.skip)) <|
  .seq (.seq (.region [⟨some 7, none, .mov (.tmp 0)⟩,
    ⟨some 8, none, .bin .geq (.tmp 7) (.const (.int .u32 256))⟩] none) <|
  .cond (.tmp 8)
   (.seq (.region [⟨some 9, none, .mov (.tmp 0)⟩,
     ⟨some 10, none, .bin .shr (.tmp 9) (.const (.int .u64 8))⟩,
     ⟨some 0, none, .mov (.tmp 10)⟩] none) <|
   .region [⟨some 11, none, .mov (.tmp 2)⟩,
     ⟨some 12, none, .bin .add (.tmp 11) (.const (.int .i64 8))⟩,
     ⟨some 2, none, .mov (.tmp 12)⟩] none)
   (.skip)) <|
  .seq (.region [⟨some 13, none, .mov (.tmp 2)⟩,
    ⟨some 14, none, .mov (.tmp 0)⟩,
    ⟨some 15, none, .conv (.toInt .u8) (.tmp 14)⟩,
    ⟨some 16, none, .index (.const (.str tab_bits_Len32)) (.tmp 15)⟩,
    ⟨some 17, none, .conv (.toInt .i64) (.tmp 16)⟩,
    ⟨some 18, none, .bin .add (.tmp 13) (.tmp 17)⟩,
    ⟨some 2, none, .mov (.tmp 18)⟩] none) <|
  .ret⟩
def fn_bits_TrailingZeros32 : AFn := ⟨14, [.tmp 2], false,
  .seq (.region [⟨some 2, none, .mov (.const (.int .i64 0))⟩] none) <|
  .seq (.seq (.region [⟨some 3, none, .mov (.tmp 0)⟩,
    ⟨some 4, none, .bin .eql (.tmp 3) (.const (.int .u32 0))⟩] none) <|
  .cond (.tmp 4)
   (.seq (.region [⟨some 2, none, .mov (.const (.int .i64 32))⟩] none) <|
   .ret)
   (.skip)) <|
  .seq (.region [⟨some 5, none, .mov (.tmp 0)⟩,
    ⟨some 6, none, .mov (.tmp 0)⟩,
    ⟨some 7, none, .un .neg (.tmp 6)⟩,
    ⟨some 8, none, .bin .and (.tmp 5) (.tmp 7)⟩,
    ⟨some 9, none, .bin .mul (.tmp 8) (.const (.int .u32 125613361))⟩,
    ⟨some 10, none, .bin .shr (.tmp 9) (.const (.int .u64 27))⟩,
    ⟨some 11, none, .iaddra 32 1 (.glob 3) (.tmp 10)⟩,
    ⟨some 12, none, .load false 1 (.tmp 11)⟩,
    ⟨some 13, none, .conv (.toInt .i64) (.tmp 12)⟩,
    ⟨some 2, none, .mov (.tmp 13)⟩] none) <|
  .ret⟩
def fn_bits_LeadingZeros32 : AFn := ⟨6, [.tmp 2], false,
  .seq (.region [⟨some 2, none, .mov (.const (.int .i64 0))⟩] none) <|
  .seq (.region [⟨some 3, none, .mov (.tmp 0)⟩,
    ⟨some 4, none, .callf id_bits_Len32 [.tmp 3]⟩,
    ⟨some 5, none, .bin .sub (.const (.int .i64 32)) (.tmp 4)⟩,
    ⟨some 2, none, .mov (.tmp 5)⟩] none) <|
  .ret⟩
end Go.Am
end
section
set_option maxRecDepth 4000
namespace Go.Am
open Go
abbrev id_claim_Free : FuncId := 19
abbrev id_claim_Valid : FuncId := 28
abbrev id_claim_named : FuncId := 59
abbrev id_slices_ContainsFunc_Cond : FuncId := 60
abbrev id_claim_Free_1 : FuncId := 61
abbrev id_claim_mentions : FuncId := 62
abbrev id_enclose_Valid : FuncId := 76
abbrev id_expr_Valid : FuncId := 77
abbrev id_claim_covered : FuncId := 78
abbrev id_claim_side : FuncId := 134
abbrev id_slices_IndexFunc_Cond : FuncId := 135
abbrev id_expr_Vars : FuncId := 136
abbrev id_slices_Contains_string : FuncId := 137
abbrev id_expr_IsName : FuncId := 148
abbrev id_interval_IsEmpty : FuncId := 149
abbrev id_expr_count : FuncId := 150
abbrev id_slices_ContainsFunc_string : FuncId := 151
abbrev id_claim_covered_1 : FuncId := 152
abbrev id_slices_IndexFunc_Side : FuncId := 227
abbrev id_claim_side_1 : FuncId := 228
abbrev id_slices_Index_string : FuncId := 232
abbrev id_interval_try_bool : FuncId := 235
abbrev id_interval_read : FuncId := 237
abbrev id_syntax_IsName : FuncId := 242
abbrev id_interval_IsEmpty_1 : FuncId := 243
abbrev id_expr_fields : FuncId := 244
abbrev id_slices_IndexFunc_string : FuncId := 245
abbrev id_elem_Find : FuncId := 261
abbrev id_interval_try_bool_1 : FuncId := 318
abbrev id_interval_number : FuncId := 319
abbrev id_syntax_word : FuncId := 324
abbrev id_syntax_Reserved : FuncId := 325
abbrev id_expr_kids : FuncId := 326
abbrev id_elem_names : FuncId := 328
abbrev id_interval_must : FuncId := 376
abbrev id_syntax_letter : FuncId := 377
abbrev id_syntax_digit : FuncId := 378
def fn_interval_must : AFn := ⟨7, [], false,
  .seq (.region [⟨some 2, none, .mov (.tmp 0)⟩,
    ⟨some 3, none, .bin .neq (.tmp 2) (.const (.int .i64 0))⟩] none) <|
  .cond (.tmp 3)
   (.region [⟨some 4, none, .mov (.tmp 0)⟩,
     ⟨some 5, none, .build [.int .i64 0] [(0, 1, (.tmp 4))]⟩,
     ⟨some 6, none, .mkif 355 (.tmp 5)⟩,
     ⟨none, none, .panic (.tmp 6)⟩] none)
   (.skip)⟩
def fn_interval_number : AFn := ⟨14, [.cell 2 true 3], false,
  .seq (.region [⟨some 1, none, .box 24 3 (.tmp 0)⟩,
    ⟨some 2, none, .alloc 217 3 [.bool false, .nils, .nils]⟩] none) <|
  .seq (.region [⟨some 6, none, .load true 3 (.tmp 1)⟩,
    ⟨some 7, none, .callf id_word_Read [.tmp 6]⟩,
    ⟨some 5, none, .mov (.tmp 7)⟩,
    ⟨some 8, none, .extract (.tmp 5) 0⟩,
    ⟨some 9, none, .extract (.tmp 5) 1⟩,
    ⟨some 3, none, .alloc 217 3 [.bool false, .nils, .nils]⟩,
    ⟨none, none, .store 3 (.tmp 3) (.tmp 8)⟩,
    ⟨some 4, none, .mov (.tmp 9)⟩] none) <|
  .seq (.seq (.region [⟨some 10, none, .mov (.tmp 4)⟩,
    ⟨some 11, none, .un .not (.tmp 10)⟩] none) <|
  .cond (.tmp 11)
   (.region [⟨some 12, none, .callf id_interval_must [.const (.int .i64 1)]⟩] none)
   (.skip)) <|
  .seq (.region [⟨some 13, none, .load true 3 (.tmp 3)⟩,
    ⟨none, none, .store 3 (.tmp 2) (.tmp 13)⟩] none) <|
  .ret⟩
def fn_interval_try_bool : AFn := ⟨7, [.cell 2 false 1, .cell 3 false 1], true,
  .seq (.region [⟨some 2, none, .alloc 4 1 [.bool false]⟩,
    ⟨some 3, none, .alloc 32 1 [.int .i64 0]⟩] none) <|
  .seq (.region [⟨some 4, none, .mkfn id_interval_try_bool_1 [] [.tmp 2, .tmp 3]⟩,
    ⟨none, none, .defer (.tmp 4) []⟩] none) <|
  .seq (.region [⟨some 5, none, .mov (.tmp 0)⟩,
    ⟨some 6, none, .callv (.tmp 5) []⟩,
    ⟨none, none, .store 1 (.tmp 2) (.tmp 6)⟩,
    ⟨none, none, .store 1 (.tmp 3) (.const (.int .i64 0))⟩] none) <|
  .ret⟩
def fn_interval_try_bool_1 : AFn := ⟨15, [], true,
  .seq (.region [⟨some 6, none, .recover⟩] none) <|
  .block 0 <|
  .seq (.region [⟨some 8, none, .eqnil 4 false (.tmp 6)⟩] none) <|
  .cond (.tmp 8)
   (.region [⟨some 2, none, .mov (.tmp 6)⟩] none)
   (.seq (.region [⟨some 9, none, .tassert 355 true (.agg [.int .i64 0]) (.tmp 6)⟩,
     ⟨some 10, none, .extract (.tmp 9) 1⟩,
     ⟨some 11, none, .extract (.tmp 9) 0⟩] none) <|
   .cond (.tmp 10)
    (.seq (.region [⟨some 3, none, .alloc 355 1 [.int .i64 0]⟩,
      ⟨none, none, .store 1 (.tmp 3) (.tmp 11)⟩] none) <|
    .seq (.region [⟨some 4, none, .mov (.const (.bool false))⟩] none) <|
    .region [⟨some 12, none, .mov (.tmp 4)⟩,
      ⟨some 13, none, .faddr 0 (.tmp 3)⟩,
      ⟨some 14, none, .load false 1 (.tmp 13)⟩,
      ⟨none, none, .store 1 (.tmp 0) (.tmp 12)⟩,
      ⟨none, none, .store 1 (.tmp 1) (.tmp 14)⟩] (some ⟨[(2, 3)], [[], [], [], [], []]⟩))
    (.seq (.region [⟨some 5, none, .mov (.tmp 6)⟩] none) <|
    .region [⟨some 7, none, .mov (.tmp 5)⟩,
      ⟨none, none, .panic (.tmp 7)⟩] none))⟩
def fn_interval_read : AFn := ⟨33, [.cell 2 true 9], false,
  .seq (.region [⟨some 1, none, .box 39 8 (.tmp 0)⟩,
    ⟨some 2, none, .alloc 302 9 [.bool false, .nils, .nils, .bool false, .nils, .nils, .bool false, .bool false, .bool false]⟩] none) <|
  .seq (.region [⟨some 4, none, .faddr 0 (.tmp 1)⟩,
    ⟨some 5, none, .load true 3 (.tmp 4)⟩,
    ⟨some 6, none, .callf id_interval_number [.tmp 5]⟩,
    ⟨some 7, none, .faddr 3 (.tmp 1)⟩,
    ⟨some 8, none, .load true 3 (.tmp 7)⟩,
    ⟨some 9, none, .callf id_interval_number [.tmp 8]⟩,
    ⟨some 10, none, .faddr 6 (.tmp 1)⟩,
    ⟨some 11, none, .load false 1 (.tmp 10)⟩,
    ⟨some 12, none, .faddr 7 (.tmp 1)⟩,
    ⟨some 13, none, .load false 1 (.tmp 12)⟩,
    ⟨some 14, none, .build [.bool false, .nils, .nils, .bool false, .nils, .nils, .bool false, .bool false, .bool false] [(0, 3, (.tmp 6)), (3, 3, (.tmp 9)), (6, 1, (.tmp 11)), (7, 1, (.tmp 13))]⟩,
    ⟨some 3, none, .alloc 302 9 [.bool false, .nils, .nils, .bool false, .nils, .nils, .bool false, .bool false, .bool false]⟩,
    ⟨none, none, .store 9 (.tmp 3) (.tmp 14)⟩] (some ⟨[(1, 4), (2, 4), (1, 7), (2, 7), (4, 7), (5, 7), (1, 9), (2, 9), (4, 9), (5, 9), (7, 9), (1, 11), (2, 11), (4, 11), (5, 11), (7, 11), (9, 11)], [[], [], [3, 4, 6, 7, 8, 9, 11], [], [], [6, 7, 8, 9, 11], [], [], [], [], [], [], []]⟩)) <|
  .seq (.region [⟨some 15, none, .faddr 6 (.tmp 3)⟩,
    ⟨some 16, none, .load false 1 (.tmp 15)⟩,
    ⟨some 17, none, .un .not (.tmp 16)⟩,
    ⟨some 18, none, .mov (.tmp 17)⟩,
    ⟨some 19, some (18, true), .faddr 7 (.tmp 3)⟩,
    ⟨some 20, some (18, true), .load false 1 (.tmp 19)⟩,
    ⟨some 21, some (18, true), .un .not (.tmp 20)⟩,
    ⟨some 22, none, .pick (.tmp 18) (.tmp 21) (.const (.bool false))⟩,
    ⟨some 23, none, .mov (.tmp 22)⟩,
    ⟨some 24, some (23, true), .faddr 0 (.tmp 3)⟩,
    ⟨some 25, some (23, true), .load true 3 (.tmp 24)⟩,
    ⟨some 26, some (23, true), .faddr 3 (.tmp 3)⟩,
    ⟨some 27, some (23, true), .load true 3 (.tmp 26)⟩,
    ⟨some 28, some (23, true), .callf id_word_Frac_Cmp [.tmp 25, .tmp 27]⟩,
    ⟨some 29, some (23, true), .bin .gtr (.tmp 28) (.const (.int .i64 0))⟩,
    ⟨some 30, none, .pick (.tmp 23) (.tmp 29) (.const (.bool false))⟩,
    ⟨some 31, none, .faddr 8 (.tmp 3)⟩,
    ⟨none, none, .store 1 (.tmp 31) (.tmp 30)⟩] none) <|
  .seq (.region [⟨some 32, none, .load true 9 (.tmp 3)⟩,
    ⟨none, none, .store 9 (.tmp 2) (.tmp 32)⟩] none) <|
  .ret⟩
def fn_interval_IsEmpty : AFn := ⟨8, [.tmp 2, .tmp 3], false,
  .seq (.region [⟨some 1, none, .box 39 8 (.tmp 0)⟩,
    ⟨some 2, none, .mov (.const (.bool false))⟩,
    ⟨some 3, none, .mov (.const (.int .i64 0))⟩] none) <|
  .seq (.region [⟨some 4, none, .mkfn id_interval_IsEmpty_1 [] [.tmp 1]⟩,
    ⟨some 5, none, .callf id_interval_try_bool [.tmp 4]⟩,
    ⟨some 6, none, .extract (.tmp 5) 0⟩,
    ⟨some 7, none, .extract (.tmp 5) 1⟩,
    ⟨some 2, none, .mov (.tmp 6)⟩,
    ⟨some 3, none, .mov (.tmp 7)⟩] none) <|
  .ret⟩
def fn_interval_IsEmpty_1 : AFn := ⟨5, [.tmp 1], true,
  .seq (.region [⟨some 1, none, .mov (.const (.bool false))⟩] none) <|
  .seq (.region [⟨some 2, none, .load true 8 (.tmp 0)⟩,
    ⟨some 3, none, .callf id_interval_read [.tmp 2]⟩,
    ⟨some 4, none, .field false 8 1 (.tmp 3)⟩,
    ⟨some 1, none, .mov (.tmp 4)⟩] none) <|
  .ret⟩
def fn_syntax_letter : AFn := ⟨9, [.tmp 2], false,
  .seq (.region [⟨some 2, none, .mov (.const (.bool false))⟩] none) <|
  .seq (.region [⟨some 3, none, .mov (.tmp 0)⟩,
    ⟨some 4, none, .bin .geq (.tmp 3) (.const (.int .u8 97))⟩,
    ⟨some 5, none, .mov (.tmp 4)⟩,
    ⟨some 6, some (5, true), .mov (.tmp 0)⟩,
    ⟨some 7, some (5, true), .bin .leq (.tmp 6) (.const (.int .u8 122))⟩,
    ⟨some 8, none, .pick (.tmp 5) (.tmp 7) (.const (.bool false))⟩,
    ⟨some 2, none, .mov (.tmp 8)⟩] none) <|
  .ret⟩
def fn_syntax_digit : AFn := ⟨9, [.tmp 2], false,
  .seq (.region [⟨some 2, none, .mov (.const (.bool false))⟩] none) <|
  .seq (.region [⟨some 3, none, .mov (.tmp 0)⟩,
    ⟨some 4, none, .bin .geq (.tmp 3) (.const (.int .u8 48))⟩,
    ⟨some 5, none, .mov (.tmp 4)⟩,
    ⟨some 6, some (5, true), .mov (.tmp 0)⟩,
    ⟨some 7, some (5, true), .bin .leq (.tmp 6) (.const (.int .u8 57))⟩,
    ⟨some 8, none, .pick (.tmp 5) (.tmp 7) (.const (.bool false))⟩,
    ⟨some 2, none, .mov (.tmp 8)⟩] none) <|
  .ret⟩
def fn_syntax_word : AFn := ⟨31, [.tmp 2], false,
  .seq (.region [⟨some 2, none, .mov (.const (.int .i64 0))⟩] none) <|
  .seq (.seq (.region [⟨some 4, none, .mov (.tmp 0)⟩,
    ⟨some 5, none, .bin .eql (.tmp 4) (.const (.str []))⟩,
    ⟨some 6, none, .mov (.tmp 5)⟩,
    ⟨some 7, some (6, false), .mov (.tmp 0)⟩,
    ⟨some 8, some (6, false), .index (.tmp 7) (.const (.int .i64 0))⟩,
    ⟨some 9, some (6, false), .callf id_syntax_letter [.tmp 8]⟩,
    ⟨some 10, some (6, false), .un .not (.tmp 9)⟩,
    ⟨some 11, none, .pick (.tmp 6) (.const (.bool true)) (.tmp 10)⟩] none) <|
  .cond (.tmp 11)
   (.seq (.region [⟨some 2, none, .mov (.const (.int .i64 0))⟩] none) <|
   .ret)
   (.skip)) <|
  .seq (.region [⟨some 3, none, .mov (.const (.int .i64 1))⟩] none) <|
  .seq (.block 0 <|
  .loop <|
  .seq (.seq (.region [⟨some 12, none, .mov (.tmp 3)⟩,
    ⟨some 13, none, .mov (.tmp 0)⟩,
    ⟨some 14, none, .len 0 (.tmp 13)⟩,
    ⟨some 15, none, .bin .lss (.tmp 12) (.tmp 14)⟩,
    ⟨some 16, none, .mov (.tmp 15)⟩,
    ⟨some 17, some (16, true), .mov (.tmp 0)⟩,
    ⟨some 18, some (16, true), .mov (.tmp 3)⟩,
    ⟨some 19, some (16, true), .index (.tmp 17) (.tmp 18)⟩,
    ⟨some 20, some (16, true), .callf id_syntax_letter [.tmp 19]⟩,
    ⟨some 21, some (16, true), .mov (.tmp 20)⟩,
    ⟨some 22, some (21, false), .mov (.tmp 0)⟩,
    ⟨some 23, some (21, false), .mov (.tmp 3)⟩,
    ⟨some 24, some (21, false), .index (.tmp 22) (.tmp 23)⟩,
    ⟨some 25, some (21, false), .callf id_syntax_digit [.tmp 24]⟩,
    ⟨some 26, some (16, true), .pick (.tmp 21) (.const (.bool true)) (.tmp 25)⟩,
    ⟨some 27, none, .pick (.tmp 16) (.tmp 26) (.const (.bool false))⟩] none) <|
  .cond (.tmp 27)
   (.skip)
   (.exit 0)) <|
  .block 1 <|
  .region [⟨some 28, none, .mov (.tmp 3)⟩,
    ⟨some 29, none, .bin .add (.tmp 28) (.const (.int .i64 1))⟩,
    ⟨some 3, none, .mov (.tmp 29)⟩] none) <|
  .seq (.region [⟨some 30, none, .mov (.tmp 3)⟩,
    ⟨some 2, none, .mov (.tmp 30)⟩] none) <|
  .ret⟩
def fn_syntax_IsName : AFn := ⟨22, [.tmp 2], false,
  .seq (.region [⟨some 2, none, .mov (.const (.bool false))⟩] none) <|
  .seq (.region [⟨some 3, none, .mov (.tmp 0)⟩,
    ⟨some 4, none, .len 0 (.tmp 3)⟩,
    ⟨some 5, none, .bin .leq (.tmp 4) (.const (.int .i64 8))⟩,
    ⟨some 6, none, .mov (.tmp 5)⟩,
    ⟨some 7, some (6, true), .mov (.tmp 0)⟩,
    ⟨some 8, some (6, true), .callf id_syntax_word [.tmp 7]⟩,
    ⟨some 9, some (6, true), .mov (.tmp 0)⟩,
    ⟨some 10, some (6, true), .len 0 (.tmp 9)⟩,
    ⟨some 11, some (6, true), .bin .eql (.tmp 8) (.tmp 10)⟩,
    ⟨some 12, none, .pick (.tmp 6) (.tmp 11) (.const (.bool false))⟩,
    ⟨some 13, none, .mov (.tmp 12)⟩,
    ⟨some 14, some (13, true), .mov (.tmp 0)⟩,
    ⟨some 15, some (13, true), .bin .neq (.tmp 14) (.const (.str []))⟩,
    ⟨some 16, none, .pick (.tmp 13) (.tmp 15) (.const (.bool false))⟩,
    ⟨some 17, none, .mov (.tmp 16)⟩,
    ⟨some 18, some (17, true), .mov (.tmp 0)⟩,
    ⟨some 19, some (17, true), .callf id_syntax_Reserved [.tmp 18]⟩,
    ⟨some 20, some (17, true), .un .not (.tmp 19)⟩,
    ⟨some 21, none, .pick (.tmp 17) (.tmp 20) (.const (.bool false))⟩,
    ⟨some 2, none, .mov (.tmp 21)⟩] none) <|
  .ret⟩
def fn_syntax_Reserved : AFn := ⟨24, [.tmp 2], false,
  .seq (.region [⟨some 2, none, .mov (.const (.bool false))⟩] none) <|
  .seq (.seq (.region [⟨some 5, none, .mov (.tmp 0)⟩] none) <|
  .block 0 <|
  .seq (.seq (.region [⟨some 7, none, .bin .eql (.tmp 5) (.const (.str [112, 105]))⟩,
    ⟨some 6, none, .mov (.tmp 7)⟩] none) <|
  .cond (.tmp 6)
   (.skip)
   (.seq (.region [⟨some 8, none, .bin .eql (.tmp 5) (.const (.str [97, 98, 115]))⟩,
     ⟨some 6, none, .mov (.tmp 8)⟩] none) <|
   .cond (.tmp 6)
    (.skip)
    (.seq (.region [⟨some 9, none, .bin .eql (.tmp 5) (.const (.str [109, 105, 110]))⟩,
      ⟨some 6, none, .mov (.tmp 9)⟩] none) <|
    .cond (.tmp 6)
     (.skip)
     (.seq (.region [⟨some 10, none, .bin .eql (.tmp 5) (.const (.str [109, 97, 120]))⟩,
       ⟨some 6, none, .mov (.tmp 10)⟩] none) <|
     .cond (.tmp 6)
      (.skip)
      (.seq (.region [⟨some 11, none, .bin .eql (.tmp 5) (.const (.str [114, 111, 111, 116]))⟩,
        ⟨some 6, none, .mov (.tmp 11)⟩] none) <|
      .cond (.tmp 6)
       (.skip)
       (.seq (.region [⟨some 12, none, .bin .eql (.tmp 5) (.const (.str [115, 113, 114, 116]))⟩,
         ⟨some 6, none, .mov (.tmp 12)⟩] none) <|
       .cond (.tmp 6)
        (.skip)
        (.seq (.region [⟨some 13, none, .bin .eql (.tmp 5) (.const (.str [105, 102]))⟩,
          ⟨some 6, none, .mov (.tmp 13)⟩] none) <|
        .cond (.tmp 6)
         (.skip)
         (.seq (.region [⟨some 14, none, .bin .eql (.tmp 5) (.const (.str [105, 110, 102]))⟩,
           ⟨some 6, none, .mov (.tmp 14)⟩] none) <|
         .cond (.tmp 6)
          (.skip)
          (.seq (.region [⟨some 15, none, .bin .eql (.tmp 5) (.const (.str [102, 111, 114]))⟩,
            ⟨some 6, none, .mov (.tmp 15)⟩] none) <|
          .cond (.tmp 6)
           (.skip)
           (.seq (.region [⟨some 16, none, .bin .eql (.tmp 5) (.const (.str [105, 110]))⟩,
             ⟨some 6, none, .mov (.tmp 16)⟩] none) <|
           .cond (.tmp 6)
            (.skip)
            (.region [⟨some 17, none, .bin .eql (.tmp 5) (.const (.str [119, 104, 101, 114, 101]))⟩,
              ⟨some 6, none, .mov (.tmp 17)⟩] none))))))))))) <|
  .cond (.tmp 6)
   (.seq (.region [⟨some 2, none, .mov (.const (.bool true))⟩] none) <|
   .ret)
   (.skip)) <|
  .seq (.region [⟨some 19, none, .mov (.tmp 0)⟩,
    ⟨some 20, none, .callf id_elem_Find [.tmp 19]⟩,
    ⟨some 18, none, .mov (.tmp 20)⟩,
    ⟨some 21, none, .extract (.tmp 18) 0⟩,
    ⟨some 22, none, .extract (.tmp 18) 1⟩,
    ⟨some 3, none, .mov (.tmp 21)⟩,
    ⟨some 4, none, .mov (.tmp 22)⟩] none) <|
  .seq (.region [⟨some 23, none, .mov (.tmp 4)⟩,
    ⟨some 2, none, .mov (.tmp 23)⟩] none) <|
  .ret⟩
def fn_elem_Find : AFn := ⟨19, [.tmp 2, .tmp 3], false,
  .seq (.region [⟨some 2, none, .mov (.const (.int .i64 0))⟩,
    ⟨some 3, none, .mov (.const (.bool false))⟩] none) <|
  .seq (.seq (.region [⟨some 6, none, .callf id_elem_names []⟩,
    ⟨some 7, none, .len 1 (.tmp 6)⟩,
    ⟨some 8, none, .mov (.const (.int .i64 0))⟩] none) <|
  .block 0 <|
  .loop <|
  .seq (.region [⟨some 9, none, .bin .lss (.tmp 8) (.tmp 7)⟩] none) <|
  .seq (.cond (.tmp 9)
   (.skip)
   (.exit 0)) <|
  .seq (.block 1 <|
  .seq (.region [⟨some 10, none, .mov (.tmp 8)⟩,
    ⟨some 11, none, .iaddr 1 (.tmp 6) (.tmp 8)⟩,
    ⟨some 12, none, .load false 1 (.tmp 11)⟩,
    ⟨some 4, none, .mov (.tmp 10)⟩,
    ⟨some 5, none, .mov (.tmp 12)⟩] none) <|
  .seq (.region [⟨some 13, none, .mov (.tmp 5)⟩,
    ⟨some 14, none, .mov (.tmp 0)⟩,
    ⟨some 15, none, .bin .eql (.tmp 13) (.tmp 14)⟩] none) <|
  .cond (.tmp 15)
   (.seq (.region [⟨some 16, none, .mov (.tmp 4)⟩,
     ⟨some 17, none, .bin .add (.tmp 16) (.const (.int .i64 1))⟩,
     ⟨some 2, none, .mov (.tmp 17)⟩,
     ⟨some 3, none, .mov (.const (.bool true))⟩] none) <|
   .ret)
   (.skip)) <|
  .region [⟨some 18, none, .bin .add (.tmp 8) (.const (.int .i64 1))⟩,
    ⟨some 8, none, .mov (.tmp 18)⟩] none) <|
  .seq (.region [⟨some 2, none, .mov (.const (.int .i64 0))⟩,
    ⟨some 3, none, .mov (.const (.bool false))⟩] none) <|
  .ret⟩
def fn_elem_names : AFn := ⟨2, [.tmp 0], false,
  .seq (.region [⟨some 0, none, .mov (.const (.nils))⟩] none) <|
  .seq (.region [⟨some 1, none, .bslice 9 1 8 [.str []] [(0, 1, (.const (.str [101, 120, 112]))), (1, 1, (.const (.str [108, 111, 103]))), (2, 1, (.const (.str [115, 105, 110]))), (3, 1, (.const (.str [99, 111, 115]))), (4, 1, (.const (.str [116, 97, 110]))), (5, 1, (.const (.str [97, 115, 105, 110]))), (6, 1, (.const (.str [97, 99, 111, 115]))), (7, 1, (.const (.str [97, 116, 97, 110])))]⟩,
    ⟨some 0, none, .mov (.tmp 1)⟩] none) <|
  .ret⟩
def fn_expr_kids : AFn := ⟨24, [.tmp 2, .tmp 3], false,
  .seq (.region [⟨some 2, none, .mov (.const (.int .i64 0))⟩,
    ⟨some 3, none, .mov (.const (.bool false))⟩] none) <|
  .seq (.seq (.region [⟨some 4, none, .mov (.tmp 0)⟩] none) <|
  .block 0 <|
  .seq (.seq (.region [⟨some 6, none, .bin .eql (.tmp 4) (.const (.int .i64 1))⟩,
    ⟨some 5, none, .mov (.tmp 6)⟩] none) <|
  .cond (.tmp 5)
   (.skip)
   (.seq (.region [⟨some 7, none, .bin .eql (.tmp 4) (.const (.int .i64 2))⟩,
     ⟨some 5, none, .mov (.tmp 7)⟩] none) <|
   .cond (.tmp 5)
    (.skip)
    (.region [⟨some 8, none, .bin .eql (.tmp 4) (.const (.int .i64 3))⟩,
      ⟨some 5, none, .mov (.tmp 8)⟩] none))) <|
  .cond (.tmp 5)
   (.seq (.region [⟨some 2, none, .mov (.const (.int .i64 0))⟩,
     ⟨some 3, none, .mov (.const (.bool true))⟩] none) <|
   .ret)
   (.seq (.seq (.region [⟨some 10, none, .bin .eql (.tmp 4) (.const (.int .i64 4))⟩,
     ⟨some 9, none, .mov (.tmp 10)⟩] none) <|
   .cond (.tmp 9)
    (.skip)
    (.seq (.region [⟨some 11, none, .bin .eql (.tmp 4) (.const (.int .i64 9))⟩,
      ⟨some 9, none, .mov (.tmp 11)⟩] none) <|
    .cond (.tmp 9)
     (.skip)
     (.seq (.region [⟨some 12, none, .bin .eql (.tmp 4) (.const (.int .i64 10))⟩,
       ⟨some 9, none, .mov (.tmp 12)⟩] none) <|
     .cond (.tmp 9)
      (.skip)
      (.seq (.region [⟨some 13, none, .bin .eql (.tmp 4) (.const (.int .i64 11))⟩,
        ⟨some 9, none, .mov (.tmp 13)⟩] none) <|
      .cond (.tmp 9)
       (.skip)
       (.region [⟨some 14, none, .bin .eql (.tmp 4) (.const (.int .i64 12))⟩,
         ⟨some 9, none, .mov (.tmp 14)⟩] none))))) <|
   .cond (.tmp 9)
    (.seq (.region [⟨some 2, none, .mov (.const (.int .i64 1))⟩,
      ⟨some 3, none, .mov (.const (.bool true))⟩] none) <|
    .ret)
    (.seq (.seq (.region [⟨some 16, none, .bin .eql (.tmp 4) (.const (.int .i64 5))⟩,
      ⟨some 15, none, .mov (.tmp 16)⟩] none) <|
    .cond (.tmp 15)
     (.skip)
     (.seq (.region [⟨some 17, none, .bin .eql (.tmp 4) (.const (.int .i64 6))⟩,
       ⟨some 15, none, .mov (.tmp 17)⟩] none) <|
     .cond (.tmp 15)
      (.skip)
      (.seq (.region [⟨some 18, none, .bin .eql (.tmp 4) (.const (.int .i64 7))⟩,
        ⟨some 15, none, .mov (.tmp 18)⟩] none) <|
      .cond (.tmp 15)
       (.skip)
       (.seq (.region [⟨some 19, none, .bin .eql (.tmp 4) (.const (.int .i64 8))⟩,
         ⟨some 15, none, .mov (.tmp 19)⟩] none) <|
       .cond (.tmp 15)
        (.skip)
        (.seq (.region [⟨some 20, none, .bin .eql (.tmp 4) (.const (.int .i64 13))⟩,
          ⟨some 15, none, .mov (.tmp 20)⟩] none) <|
        .cond (.tmp 15)
         (.skip)
         (.region [⟨some 21, none, .bin .eql (.tmp 4) (.const (.int .i64 14))⟩,
           ⟨some 15, none, .mov (.tmp 21)⟩] none)))))) <|
    .cond (.tmp 15)
     (.seq (.region [⟨some 2, none, .mov (.const (.int .i64 2))⟩,
       ⟨some 3, none, .mov (.const (.bool true))⟩] none) <|
     .ret)
     (.seq (.region [⟨some 23, none, .bin .eql (.tmp 4) (.const (.int .i64 15))⟩,
       ⟨some 22, none, .mov (.tmp 23)⟩] none) <|
     .cond (.tmp 22)
      (.seq (.region [⟨some 2, none, .mov (.const (.int .i64 3))⟩,
        ⟨some 3, none, .mov (.const (.bool true))⟩] none) <|
      .ret)
      (.skip))))) <|
  .seq (.region [⟨some 2, none, .mov (.const (.int .i64 0))⟩,
    ⟨some 3, none, .mov (.const (.bool false))⟩] none) <|
  .ret⟩
def fn_expr_fields : AFn := ⟨83, [.tmp 2], false,
  .seq (.region [⟨some 1, none, .box 27 7 (.tmp 0)⟩,
    ⟨some 2, none, .mov (.const (.bool false))⟩] none) <|
  .seq (.region [⟨some 3, none, .mov (.const (.int .i64 0))⟩,
    ⟨some 4, none, .mov (.const (.int .i64 0))⟩] none) <|
  .seq (.seq (.region [⟨some 9, none, .faddr 0 (.tmp 1)⟩,
    ⟨some 10, none, .load false 1 (.tmp 9)⟩] none) <|
  .block 0 <|
  .seq (.region [⟨some 12, none, .bin .eql (.tmp 10) (.const (.int .i64 9))⟩,
    ⟨some 11, none, .mov (.tmp 12)⟩] none) <|
  .cond (.tmp 11)
   (.region [⟨some 3, none, .mov (.const (.int .i64 (-32)))⟩,
     ⟨some 4, none, .mov (.const (.int .i64 32))⟩] none)
   (.seq (.region [⟨some 14, none, .bin .eql (.tmp 10) (.const (.int .i64 10))⟩,
     ⟨some 13, none, .mov (.tmp 14)⟩] none) <|
   .cond (.tmp 13)
    (.region [⟨some 3, none, .mov (.const (.int .i64 2))⟩,
      ⟨some 4, none, .mov (.const (.int .i64 8))⟩] none)
    (.seq (.region [⟨some 16, none, .bin .eql (.tmp 10) (.const (.int .i64 11))⟩,
      ⟨some 15, none, .mov (.tmp 16)⟩] none) <|
    .cond (.tmp 15)
     (.region [⟨some 3, none, .mov (.const (.int .i64 1))⟩,
       ⟨some 4, none, .mov (.const (.int .i64 8))⟩] none)
     (.skip)))) <|
  .seq (.region [⟨some 18, none, .faddr 0 (.tmp 1)⟩,
    ⟨some 19, none, .load false 1 (.tmp 18)⟩,
    ⟨some 20, none, .callf id_expr_kids [.tmp 19]⟩,
    ⟨some 17, none, .mov (.tmp 20)⟩,
    ⟨some 21, none, .extract (.tmp 17) 0⟩,
    ⟨some 22, none, .extract (.tmp 17) 1⟩,
    ⟨some 5, none, .mov (.tmp 21)⟩,
    ⟨some 6, none, .mov (.tmp 22)⟩] none) <|
  .seq (.seq (.region [⟨some 23, none, .mov (.tmp 6)⟩,
    ⟨some 24, none, .un .not (.tmp 23)⟩,
    ⟨some 25, none, .mov (.tmp 24)⟩,
    ⟨some 26, some (25, false), .faddr 6 (.tmp 1)⟩,
    ⟨some 27, some (25, false), .load false 1 (.tmp 26)⟩,
    ⟨some 28, some (25, false), .len 1 (.tmp 27)⟩,
    ⟨some 29, some (25, false), .mov (.tmp 5)⟩,
    ⟨some 30, some (25, false), .bin .neq (.tmp 28) (.tmp 29)⟩,
    ⟨some 31, none, .pick (.tmp 25) (.const (.bool true)) (.tmp 30)⟩,
    ⟨some 32, none, .mov (.tmp 31)⟩,
    ⟨some 33, some (32, false), .faddr 1 (.tmp 1)⟩,
    ⟨some 34, some (32, false), .load false 1 (.tmp 33)⟩,
    ⟨some 35, some (32, false), .mov (.tmp 3)⟩,
    ⟨some 36, some (32, false), .bin .lss (.tmp 34) (.tmp 35)⟩,
    ⟨some 37, none, .pick (.tmp 32) (.const (.bool true)) (.tmp 36)⟩,
    ⟨some 38, none, .mov (.tmp 37)⟩,
    ⟨some 39, some (38, false), .faddr 1 (.tmp 1)⟩,
    ⟨some 40, some (38, false), .load false 1 (.tmp 39)⟩,
    ⟨some 41, some (38, false), .mov (.tmp 4)⟩,
    ⟨some 42, some (38, false), .bin .gtr (.tmp 40) (.tmp 41)⟩,
    ⟨some 43, none, .pick (.tmp 38) (.const (.bool true)) (.tmp 42)⟩] none) <|
  .cond (.tmp 43)
   (.seq (.region [⟨some 2, none, .mov (.const (.bool false))⟩] none) <|
   .ret)
   (.skip)) <|
  .seq (.seq (.region [⟨some 44, none, .faddr 0 (.tmp 1)⟩,
    ⟨some 45, none, .load false 1 (.tmp 44)⟩,
    ⟨some 46, none, .bin .eql (.tmp 45) (.const (.int .i64 2))⟩,
    ⟨some 47, none, .mov (.tmp 46)⟩,
    ⟨some 48, some (47, true), .faddr 5 (.tmp 1)⟩,
    ⟨some 49, some (47, true), .load false 1 (.tmp 48)⟩,
    ⟨some 50, some (47, true), .callf id_expr_IsName [.tmp 49]⟩,
    ⟨some 51, some (47, true), .un .not (.tmp 50)⟩,
    ⟨some 52, none, .pick (.tmp 47) (.tmp 51) (.const (.bool false))⟩,
    ⟨some 53, none, .mov (.tmp 52)⟩,
    ⟨some 54, some (53, false), .faddr 0 (.tmp 1)⟩,
    ⟨some 55, some (53, false), .load false 1 (.tmp 54)⟩,
    ⟨some 56, some (53, false), .bin .neq (.tmp 55) (.const (.int .i64 2))⟩,
    ⟨some 57, some (53, false), .mov (.tmp 56)⟩,
    ⟨some 58, some (57, true), .faddr 5 (.tmp 1)⟩,
    ⟨some 59, some (57, true), .load false 1 (.tmp 58)⟩,
    ⟨some 60, some (57, true), .bin .neq (.tmp 59) (.const (.str []))⟩,
    ⟨some 61, some (53, false), .pick (.tmp 57) (.tmp 60) (.const (.bool false))⟩,
    ⟨some 62, none, .pick (.tmp 53) (.const (.bool true)) (.tmp 61)⟩] none) <|
  .cond (.tmp 62)
   (.seq (.region [⟨some 2, none, .mov (.const (.bool false))⟩] none) <|
   .ret)
   (.skip)) <|
  .seq (.seq (.region [⟨some 63, none, .faddr 0 (.tmp 1)⟩,
    ⟨some 64, none, .load false 1 (.tmp 63)⟩,
    ⟨some 65, none, .bin .neq (.tmp 64) (.const (.int .i64 1))⟩] none) <|
  .cond (.tmp 65)
   (.seq (.region [⟨some 66, none, .faddr 2 (.tmp 1)⟩,
     ⟨some 67, none, .faddr 1 (.tmp 66)⟩,
     ⟨some 68, none, .load false 1 (.tmp 67)⟩,
     ⟨some 69, none, .callf id_word_Of [.tmp 68]⟩,
     ⟨some 70, none, .callf id_word_Nat_Zero [.tmp 69]⟩,
     ⟨some 2, none, .mov (.tmp 70)⟩] none) <|
   .ret)
   (.skip)) <|
  .seq (.region [⟨some 72, none, .faddr 2 (.tmp 1)⟩,
    ⟨some 73, none, .load true 3 (.tmp 72)⟩,
    ⟨some 74, none, .callf id_word_Read [.tmp 73]⟩,
    ⟨some 71, none, .mov (.tmp 74)⟩,
    ⟨some 75, none, .extract (.tmp 71) 0⟩,
    ⟨some 76, none, .extract (.tmp 71) 1⟩,
    ⟨some 7, none, .alloc 217 3 [.bool false, .nils, .nils]⟩,
    ⟨none, none, .store 3 (.tmp 7) (.tmp 75)⟩,
    ⟨some 8, none, .mov (.tmp 76)⟩] none) <|
  .seq (.region [⟨some 77, none, .mov (.tmp 8)⟩,
    ⟨some 78, none, .mov (.tmp 77)⟩,
    ⟨some 79, some (78, true), .load true 3 (.tmp 7)⟩,
    ⟨some 80, some (78, true), .callf id_word_Frac_Sign [.tmp 79]⟩,
    ⟨some 81, some (78, true), .bin .geq (.tmp 80) (.const (.int .i64 0))⟩,
    ⟨some 82, none, .pick (.tmp 78) (.tmp 81) (.const (.bool false))⟩,
    ⟨some 2, none, .mov (.tmp 82)⟩] none) <|
  .ret⟩
def fn_expr_count : AFn := ⟨39, [.tmp 6], false,
  .seq (.region [⟨some 3, none, .box 27 7 (.tmp 0)⟩,
    ⟨some 6, none, .mov (.const (.int .i64 0))⟩] none) <|
  .seq (.region [⟨some 9, none, .mov (.tmp 2)⟩,
    ⟨some 10, none, .bin .add (.tmp 9) (.const (.int .i64 1))⟩,
    ⟨some 2, none, .mov (.tmp 10)⟩] none) <|
  .seq (.seq (.region [⟨some 11, none, .mov (.tmp 2)⟩,
    ⟨some 12, none, .bin .gtr (.tmp 11) (.const (.int .i64 300))⟩,
    ⟨some 13, none, .mov (.tmp 12)⟩,
    ⟨some 14, some (13, false), .mov (.tmp 1)⟩,
    ⟨some 15, some (13, false), .bin .gtr (.tmp 14) (.const (.int .i64 30))⟩,
    ⟨some 16, none, .pick (.tmp 13) (.const (.bool true)) (.tmp 15)⟩,
    ⟨some 17, none, .mov (.tmp 16)⟩,
    ⟨some 18, some (17, false), .load true 7 (.tmp 3)⟩,
    ⟨some 19, some (17, false), .callf id_expr_fields [.tmp 18]⟩,
    ⟨some 20, some (17, false), .un .not (.tmp 19)⟩,
    ⟨some 21, none, .pick (.tmp 17) (.const (.bool true)) (.tmp 20)⟩] none) <|
  .cond (.tmp 21)
   (.seq (.region [⟨some 6, none, .mov (.const (.int .i64 301))⟩] none) <|
   .ret)
   (.skip)) <|
  .seq (.seq (.region [⟨some 22, none, .faddr 6 (.tmp 3)⟩,
    ⟨some 23, none, .load false 1 (.tmp 22)⟩,
    ⟨some 24, none, .len 1 (.tmp 23)⟩,
    ⟨some 25, none, .mov (.const (.int .i64 0))⟩] none) <|
  .block 0 <|
  .loop <|
  .seq (.region [⟨some 26, none, .bin .lss (.tmp 25) (.tmp 24)⟩] none) <|
  .seq (.cond (.tmp 26)
   (.skip)
   (.exit 0)) <|
  .seq (.block 1 <|
  .seq (.region [⟨some 27, none, .iaddr 7 (.tmp 23) (.tmp 25)⟩,
    ⟨some 28, none, .load true 7 (.tmp 27)⟩,
    ⟨some 8, none, .alloc 27 7 [.int .i64 0, .int .i64 0, .bool false, .nils, .nils, .str [], .nils]⟩,
    ⟨none, none, .store 7 (.tmp 8) (.tmp 28)⟩] none) <|
  .seq (.region [⟨some 29, none, .load true 7 (.tmp 8)⟩,
    ⟨some 30, none, .mov (.tmp 1)⟩,
    ⟨some 31, none, .bin .add (.tmp 30) (.const (.int .i64 1))⟩,
    ⟨some 32, none, .mov (.tmp 2)⟩,
    ⟨some 33, none, .callf id_expr_count [.tmp 29, .tmp 31, .tmp 32]⟩,
    ⟨some 2, none, .mov (.tmp 33)⟩] none) <|
  .seq (.region [⟨some 34, none, .mov (.tmp 2)⟩,
    ⟨some 35, none, .bin .gtr (.tmp 34) (.const (.int .i64 300))⟩] none) <|
  .cond (.tmp 35)
   (.seq (.region [⟨some 36, none, .mov (.tmp 2)⟩,
     ⟨some 6, none, .mov (.tmp 36)⟩] none) <|
   .ret)
   (.skip)) <|
  .region [⟨some 37, none, .bin .add (.tmp 25) (.const (.int .i64 1))⟩,
    ⟨some 25, none, .mov (.tmp 37)⟩] none) <|
  .seq (.region [⟨some 38, none, .mov (.tmp 2)⟩,
    ⟨some 6, none, .mov (.tmp 38)⟩] none) <|
  .ret⟩
def fn_expr_Valid : AFn := ⟨6, [.tmp 2], false,
  .seq (.region [⟨some 1, none, .box 27 7 (.tmp 0)⟩,
    ⟨some 2, none, .mov (.const (.bool false))⟩] none) <|
  .seq (.region [⟨some 3, none, .load true 7 (.tmp 1)⟩,
    ⟨some 4, none, .callf id_expr_count [.tmp 3, .const (.int .i64 1), .const (.int .i64 0)]⟩,
    ⟨some 5, none, .bin .leq (.tmp 4) (.const (.int .i64 300))⟩,
    ⟨some 2, none, .mov (.tmp 5)⟩] none) <|
  .ret⟩
def fn_expr_IsName : AFn := ⟨5, [.tmp 2], false,
  .seq (.region [⟨some 2, none, .mov (.const (.bool false))⟩] none) <|
  .seq (.region [⟨some 3, none, .mov (.tmp 0)⟩,
    ⟨some 4, none, .callf id_syntax_IsName [.tmp 3]⟩,
    ⟨some 2, none, .mov (.tmp 4)⟩] none) <|
  .ret⟩
def fn_enclose_Valid : AFn := ⟨48, [.tmp 2], false,
  .seq (.region [⟨some 2, none, .mov (.const (.bool false))⟩] none) <|
  .seq (.seq (.region [⟨some 7, none, .mov (.tmp 0)⟩,
    ⟨some 8, none, .len 1 (.tmp 7)⟩,
    ⟨some 9, none, .bin .gtr (.tmp 8) (.const (.int .i64 6))⟩] none) <|
  .cond (.tmp 9)
   (.seq (.region [⟨some 2, none, .mov (.const (.bool false))⟩] none) <|
   .ret)
   (.skip)) <|
  .seq (.seq (.region [⟨some 10, none, .mov (.tmp 0)⟩,
    ⟨some 11, none, .len 1 (.tmp 10)⟩,
    ⟨some 12, none, .mov (.const (.int .i64 0))⟩] none) <|
  .block 0 <|
  .loop <|
  .seq (.region [⟨some 13, none, .bin .lss (.tmp 12) (.tmp 11)⟩] none) <|
  .seq (.cond (.tmp 13)
   (.skip)
   (.exit 0)) <|
  .seq (.block 1 <|
  .seq (.region [⟨some 14, none, .mov (.tmp 12)⟩,
    ⟨some 15, none, .iaddr 9 (.tmp 10) (.tmp 12)⟩,
    ⟨some 16, none, .load true 9 (.tmp 15)⟩,
    ⟨some 4, none, .alloc 41 9 [.str [], .bool false, .nils, .nils, .bool false, .nils, .nils, .bool false, .bool false]⟩,
    ⟨some 3, none, .mov (.tmp 14)⟩,
    ⟨none, none, .store 9 (.tmp 4) (.tmp 16)⟩] none) <|
  .seq (.seq (.region [⟨some 17, none, .faddr 0 (.tmp 4)⟩,
    ⟨some 18, none, .load false 1 (.tmp 17)⟩,
    ⟨some 19, none, .callf id_expr_IsName [.tmp 18]⟩,
    ⟨some 20, none, .un .not (.tmp 19)⟩,
    ⟨some 21, none, .mov (.tmp 20)⟩,
    ⟨some 22, some (21, false), .mov (.tmp 3)⟩,
    ⟨some 23, some (21, false), .bin .gtr (.tmp 22) (.const (.int .i64 0))⟩,
    ⟨some 24, some (21, false), .mov (.tmp 23)⟩,
    ⟨some 25, some (24, true), .mov (.tmp 0)⟩,
    ⟨some 26, some (24, true), .mov (.tmp 3)⟩,
    ⟨some 27, some (24, true), .bin .sub (.tmp 26) (.const (.int .i64 1))⟩,
    ⟨some 28, some (24, true), .iaddr 9 (.tmp 25) (.tmp 27)⟩,
    ⟨some 29, some (24, true), .faddr 0 (.tmp 28)⟩,
    ⟨some 30, some (24, true), .load false 1 (.tmp 29)⟩,
    ⟨some 31, some (24, true), .faddr 0 (.tmp 4)⟩,
    ⟨some 32, some (24, true), .load false 1 (.tmp 31)⟩,
    ⟨some 33, some (24, true), .bin .geq (.tmp 30) (.tmp 32)⟩,
    ⟨some 34, some (21, false), .pick (.tmp 24) (.tmp 33) (.const (.bool false))⟩,
    ⟨some 35, none, .pick (.tmp 21) (.const (.bool true)) (.tmp 34)⟩] (some ⟨[(13, 15)], [[], [], [], [], [], [], [], [], [], [], [], [], [], [], [], [], [], [], []]⟩)) <|
  .cond (.tmp 35)
   (.seq (.region [⟨some 2, none, .mov (.const (.bool false))⟩] none) <|
   .ret)
   (.skip)) <|
  .seq (.region [⟨some 37, none, .faddr 1 (.tmp 4)⟩,
    ⟨some 38, none, .load true 8 (.tmp 37)⟩,
    ⟨some 39, none, .callf id_interval_IsEmpty [.tmp 38]⟩,
    ⟨some 36, none, .mov (.tmp 39)⟩,
    ⟨some 40, none, .extract (.tmp 36) 0⟩,
    ⟨some 41, none, .extract (.tmp 36) 1⟩,
    ⟨some 5, none, .mov (.tmp 40)⟩,
    ⟨some 6, none, .mov (.tmp 41)⟩] none) <|
  .seq (.region [⟨some 42, none, .mov (.tmp 6)⟩,
    ⟨some 43, none, .bin .neq (.tmp 42) (.const (.int .i64 0))⟩,
    ⟨some 44, none, .mov (.tmp 43)⟩,
    ⟨some 45, some (44, false), .mov (.tmp 5)⟩,
    ⟨some 46, none, .pick (.tmp 44) (.const (.bool true)) (.tmp 45)⟩] none) <|
  .cond (.tmp 46)
   (.seq (.region [⟨some 2, none, .mov (.const (.bool false))⟩] none) <|
   .ret)
   (.skip)) <|
  .region [⟨some 47, none, .bin .add (.tmp 12) (.const (.int .i64 1))⟩,
    ⟨some 12, none, .mov (.tmp 47)⟩] none) <|
  .seq (.region [⟨some 2, none, .mov (.const (.bool true))⟩] none) <|
  .ret⟩
def fn_claim_covered : AFn := ⟨20, [.tmp 4], false,
  .seq (.region [⟨some 2, none, .box 27 7 (.tmp 0)⟩,
    ⟨some 3, none, .box 28 1 (.tmp 1)⟩,
    ⟨some 4, none, .mov (.const (.bool false))⟩] none) <|
  .seq (.region [⟨some 8, none, .load true 7 (.tmp 2)⟩,
    ⟨some 9, none, .callf id_expr_Vars [.tmp 8]⟩,
    ⟨some 7, none, .mov (.tmp 9)⟩,
    ⟨some 10, none, .extract (.tmp 7) 0⟩,
    ⟨some 11, none, .extract (.tmp 7) 1⟩,
    ⟨some 5, none, .mov (.tmp 10)⟩,
    ⟨some 6, none, .mov (.tmp 11)⟩] none) <|
  .seq (.region [⟨some 12, none, .mov (.tmp 6)⟩,
    ⟨some 13, none, .bin .eql (.tmp 12) (.const (.int .i64 0))⟩,
    ⟨some 14, none, .mov (.tmp 13)⟩,
    ⟨some 15, some (14, true), .mov (.tmp 5)⟩,
    ⟨some 16, some (14, true), .mkfn id_claim_covered_1 [] [.tmp 3]⟩,
    ⟨some 17, some (14, true), .callf id_slices_ContainsFunc_string [.tmp 15, .tmp 16]⟩,
    ⟨some 18, some (14, true), .un .not (.tmp 17)⟩,
    ⟨some 19, none, .pick (.tmp 14) (.tmp 18) (.const (.bool false))⟩,
    ⟨some 4, none, .mov (.tmp 19)⟩] none) <|
  .ret⟩
def fn_claim_covered_1 : AFn := ⟨8, [.tmp 3], true,
  .seq (.region [⟨some 3, none, .mov (.const (.bool false))⟩] none) <|
  .seq (.region [⟨some 4, none, .load false 1 (.tmp 1)⟩,
    ⟨some 5, none, .mov (.tmp 0)⟩,
    ⟨some 6, none, .callf id_claim_side [.tmp 4, .tmp 5]⟩,
    ⟨some 7, none, .bin .lss (.tmp 6) (.const (.int .i64 0))⟩,
    ⟨some 3, none, .mov (.tmp 7)⟩] none) <|
  .ret⟩
def fn_claim_side : AFn := ⟨8, [.tmp 4], false,
  .seq (.region [⟨some 3, none, .box 9 1 (.tmp 1)⟩,
    ⟨some 4, none, .mov (.const (.int .i64 0))⟩] none) <|
  .seq (.region [⟨some 5, none, .mov (.tmp 0)⟩,
    ⟨some 6, none, .mkfn id_claim_side_1 [] [.tmp 3]⟩,
    ⟨some 7, none, .callf id_slices_IndexFunc_Side [.tmp 5, .tmp 6]⟩,
    ⟨some 4, none, .mov (.tmp 7)⟩] none) <|
  .ret⟩
def fn_claim_side_1 : AFn := ⟨8, [.tmp 3], true,
  .seq (.region [⟨some 2, none, .box 41 9 (.tmp 0)⟩,
    ⟨some 3, none, .mov (.const (.bool false))⟩] none) <|
  .seq (.region [⟨some 4, none, .faddr 0 (.tmp 2)⟩,
    ⟨some 5, none, .load false 1 (.tmp 4)⟩,
    ⟨some 6, none, .load false 1 (.tmp 1)⟩,
    ⟨some 7, none, .bin .eql (.tmp 5) (.tmp 6)⟩,
    ⟨some 3, none, .mov (.tmp 7)⟩] none) <|
  .ret⟩
def fn_claim_Valid : AFn := ⟨49, [.tmp 2], false,
  .seq (.region [⟨some 1, none, .box 31 10 (.tmp 0)⟩,
    ⟨some 2, none, .mov (.const (.bool false))⟩] none) <|
  .seq (.seq (.region [⟨some 5, none, .faddr 8 (.tmp 1)⟩,
    ⟨some 6, none, .load false 1 (.tmp 5)⟩,
    ⟨some 7, none, .callf id_enclose_Valid [.tmp 6]⟩,
    ⟨some 8, none, .un .not (.tmp 7)⟩,
    ⟨some 9, none, .mov (.tmp 8)⟩,
    ⟨some 10, some (9, false), .faddr 9 (.tmp 1)⟩,
    ⟨some 11, some (9, false), .load false 1 (.tmp 10)⟩,
    ⟨some 12, some (9, false), .len 1 (.tmp 11)⟩,
    ⟨some 13, some (9, false), .bin .gtr (.tmp 12) (.const (.int .i64 12))⟩,
    ⟨some 14, none, .pick (.tmp 9) (.const (.bool true)) (.tmp 13)⟩,
    ⟨some 15, none, .mov (.tmp 14)⟩,
    ⟨some 16, some (15, false), .faddr 0 (.tmp 1)⟩,
    ⟨some 17, some (15, false), .load true 7 (.tmp 16)⟩,
    ⟨some 18, some (15, false), .callf id_expr_Valid [.tmp 17]⟩,
    ⟨some 19, some (15, false), .un .not (.tmp 18)⟩,
    ⟨some 20, none, .pick (.tmp 15) (.const (.bool true)) (.tmp 19)⟩,
    ⟨some 21, none, .mov (.tmp 20)⟩,
    ⟨some 22, some (21, false), .faddr 0 (.tmp 1)⟩,
    ⟨some 23, some (21, false), .load true 7 (.tmp 22)⟩,
    ⟨some 24, some (21, false), .faddr 8 (.tmp 1)⟩,
    ⟨some 25, some (21, false), .load false 1 (.tmp 24)⟩,
    ⟨some 26, some (21, false), .callf id_claim_covered [.tmp 23, .tmp 25]⟩,
    ⟨some 27, some (21, false), .un .not (.tmp 26)⟩,
    ⟨some 28, none, .pick (.tmp 21) (.const (.bool true)) (.tmp 27)⟩] none) <|
  .cond (.tmp 28)
   (.seq (.region [⟨some 2, none, .mov (.const (.bool false))⟩] none) <|
   .ret)
   (.skip)) <|
  .seq (.seq (.region [⟨some 29, none, .faddr 9 (.tmp 1)⟩,
    ⟨some 30, none, .load false 1 (.tmp 29)⟩,
    ⟨some 31, none, .len 1 (.tmp 30)⟩,
    ⟨some 32, none, .mov (.const (.int .i64 0))⟩] none) <|
  .block 0 <|
  .loop <|
  .seq (.region [⟨some 33, none, .bin .lss (.tmp 32) (.tmp 31)⟩] none) <|
  .seq (.cond (.tmp 33)
   (.skip)
   (.exit 0)) <|
  .seq (.block 1 <|
  .seq (.region [⟨some 34, none, .iaddr 8 (.tmp 30) (.tmp 32)⟩,
    ⟨some 35, none, .load true 8 (.tmp 34)⟩,
    ⟨some 4, none, .alloc 93 8 [.int .i64 0, .int .i64 0, .bool false, .nils, .nils, .str [], .nils, .bool false]⟩,
    ⟨none, none, .store 8 (.tmp 4) (.tmp 35)⟩] none) <|
  .seq (.region [⟨some 36, none, .faddr 0 (.tmp 4)⟩,
    ⟨some 37, none, .load true 7 (.tmp 36)⟩,
    ⟨some 38, none, .callf id_expr_Valid [.tmp 37]⟩,
    ⟨some 39, none, .un .not (.tmp 38)⟩,
    ⟨some 40, none, .mov (.tmp 39)⟩,
    ⟨some 41, some (40, false), .faddr 0 (.tmp 4)⟩,
    ⟨some 42, some (40, false), .load true 7 (.tmp 41)⟩,
    ⟨some 43, some (40, false), .faddr 8 (.tmp 1)⟩,
    ⟨some 44, some (40, false), .load false 1 (.tmp 43)⟩,
    ⟨some 45, some (40, false), .callf id_claim_covered [.tmp 42, .tmp 44]⟩,
    ⟨some 46, some (40, false), .un .not (.tmp 45)⟩,
    ⟨some 47, none, .pick (.tmp 40) (.const (.bool true)) (.tmp 46)⟩] none) <|
  .cond (.tmp 47)
   (.seq (.region [⟨some 2, none, .mov (.const (.bool false))⟩] none) <|
   .ret)
   (.skip)) <|
  .region [⟨some 48, none, .bin .add (.tmp 32) (.const (.int .i64 1))⟩,
    ⟨some 32, none, .mov (.tmp 48)⟩] none) <|
  .seq (.region [⟨some 2, none, .mov (.const (.bool true))⟩] none) <|
  .ret⟩
def fn_claim_named : AFn := ⟨22, [.tmp 4], false,
  .seq (.region [⟨some 2, none, .box 31 10 (.tmp 0)⟩,
    ⟨some 4, none, .mov (.const (.int .i64 0))⟩] none) <|
  .seq (.seq (.region [⟨some 7, none, .load true 10 (.tmp 2)⟩,
    ⟨some 8, none, .callf id_claim_Valid [.tmp 7]⟩,
    ⟨some 9, none, .un .not (.tmp 8)⟩] none) <|
  .cond (.tmp 9)
   (.seq (.region [⟨some 4, none, .mov (.const (.int .i64 60))⟩] none) <|
   .ret)
   (.skip)) <|
  .seq (.seq (.region [⟨some 10, none, .mov (.tmp 1)⟩,
    ⟨some 11, none, .len 1 (.tmp 10)⟩,
    ⟨some 12, none, .mov (.const (.int .i64 0))⟩] none) <|
  .block 0 <|
  .loop <|
  .seq (.region [⟨some 13, none, .bin .lss (.tmp 12) (.tmp 11)⟩] none) <|
  .seq (.cond (.tmp 13)
   (.skip)
   (.exit 0)) <|
  .seq (.block 1 <|
  .seq (.region [⟨some 14, none, .iaddr 1 (.tmp 10) (.tmp 12)⟩,
    ⟨some 15, none, .load false 1 (.tmp 14)⟩,
    ⟨some 6, none, .mov (.tmp 15)⟩] none) <|
  .seq (.region [⟨some 16, none, .faddr 8 (.tmp 2)⟩,
    ⟨some 17, none, .load false 1 (.tmp 16)⟩,
    ⟨some 18, none, .mov (.tmp 6)⟩,
    ⟨some 19, none, .callf id_claim_side [.tmp 17, .tmp 18]⟩,
    ⟨some 20, none, .bin .lss (.tmp 19) (.const (.int .i64 0))⟩] none) <|
  .cond (.tmp 20)
   (.seq (.region [⟨some 4, none, .mov (.const (.int .i64 51))⟩] none) <|
   .ret)
   (.skip)) <|
  .region [⟨some 21, none, .bin .add (.tmp 12) (.const (.int .i64 1))⟩,
    ⟨some 12, none, .mov (.tmp 21)⟩] none) <|
  .seq (.region [⟨some 4, none, .mov (.const (.int .i64 0))⟩] none) <|
  .ret⟩
def fn_claim_mentions : AFn := ⟨19, [.tmp 4], false,
  .seq (.region [⟨some 2, none, .box 27 7 (.tmp 0)⟩,
    ⟨some 4, none, .mov (.const (.bool false))⟩] none) <|
  .seq (.region [⟨some 8, none, .load true 7 (.tmp 2)⟩,
    ⟨some 9, none, .callf id_expr_Vars [.tmp 8]⟩,
    ⟨some 7, none, .mov (.tmp 9)⟩,
    ⟨some 10, none, .extract (.tmp 7) 0⟩,
    ⟨some 11, none, .extract (.tmp 7) 1⟩,
    ⟨some 5, none, .mov (.tmp 10)⟩,
    ⟨some 6, none, .mov (.tmp 11)⟩] none) <|
  .seq (.region [⟨some 12, none, .mov (.tmp 6)⟩,
    ⟨some 13, none, .bin .eql (.tmp 12) (.const (.int .i64 0))⟩,
    ⟨some 14, none, .mov (.tmp 13)⟩,
    ⟨some 15, some (14, true), .mov (.tmp 5)⟩,
    ⟨some 16, some (14, true), .mov (.tmp 1)⟩,
    ⟨some 17, some (14, true), .callf id_slices_Contains_string [.tmp 15, .tmp 16]⟩,
    ⟨some 18, none, .pick (.tmp 14) (.tmp 17) (.const (.bool false))⟩,
    ⟨some 4, none, .mov (.tmp 18)⟩] none) <|
  .ret⟩
def fn_claim_Free : AFn := ⟨19, [.tmp 4, .tmp 5], false,
  .seq (.region [⟨some 2, none, .box 31 10 (.tmp 0)⟩,
    ⟨some 3, none, .box 9 1 (.tmp 1)⟩,
    ⟨some 4, none, .mov (.const (.bool false))⟩,
    ⟨some 5, none, .mov (.const (.int .i64 0))⟩] none) <|
  .seq (.seq (.region [⟨some 7, none, .load true 10 (.tmp 2)⟩,
    ⟨some 8, none, .load false 1 (.tmp 3)⟩,
    ⟨some 9, none, .bslice 9 1 1 [.str []] [(0, 1, (.tmp 8))]⟩,
    ⟨some 10, none, .callf id_claim_named [.tmp 7, .tmp 9]⟩,
    ⟨some 6, none, .mov (.tmp 10)⟩] none) <|
  .seq (.region [⟨some 11, none, .mov (.tmp 6)⟩,
    ⟨some 12, none, .bin .neq (.tmp 11) (.const (.int .i64 0))⟩] none) <|
  .cond (.tmp 12)
   (.seq (.region [⟨some 13, none, .mov (.tmp 6)⟩,
     ⟨some 4, none, .mov (.const (.bool false))⟩,
     ⟨some 5, none, .mov (.tmp 13)⟩] none) <|
   .ret)
   (.skip)) <|
  .seq (.region [⟨some 14, none, .faddr 9 (.tmp 2)⟩,
    ⟨some 15, none, .load false 1 (.tmp 14)⟩,
    ⟨some 16, none, .mkfn id_claim_Free_1 [] [.tmp 3]⟩,
    ⟨some 17, none, .callf id_slices_ContainsFunc_Cond [.tmp 15, .tmp 16]⟩,
    ⟨some 18, none, .un .not (.tmp 17)⟩,
    ⟨some 4, none, .mov (.tmp 18)⟩,
    ⟨some 5, none, .mov (.const (.int .i64 0))⟩] none) <|
  .ret⟩
def fn_claim_Free_1 : AFn := ⟨8, [.tmp 3], true,
  .seq (.region [⟨some 2, none, .box 93 8 (.tmp 0)⟩,
    ⟨some 3, none, .mov (.const (.bool false))⟩] none) <|
  .seq (.region [⟨some 4, none, .faddr 0 (.tmp 2)⟩,
    ⟨some 5, none, .load true 7 (.tmp 4)⟩,
    ⟨some 6, none, .load false 1 (.tmp 1)⟩,
    ⟨some 7, none, .callf id_claim_mentions [.tmp 5, .tmp 6]⟩,
    ⟨some 3, none, .mov (.tmp 7)⟩] none) <|
  .ret⟩
def fn_slices_IndexFunc_Cond : AFn := ⟨19, [.tmp 4], false,
  .seq (.region [⟨some 4, none, .mov (.const (.int .i64 0))⟩] none) <|
  .seq (.seq (.region [⟨some 6, none, .mov (.tmp 0)⟩,
    ⟨some 7, none, .len 1 (.tmp 6)⟩,
    ⟨some 8, none, .mov (.const (.int .i64 0))⟩] none) <|
  .block 0 <|
  .loop <|
  .seq (.region [⟨some 9, none, .bin .lss (.tmp 8) (.tmp 7)⟩] none) <|
  .seq (.cond (.tmp 9)
   (.skip)
   (.exit 0)) <|
  .seq (.block 1 <|
  .seq (.region [⟨some 10, none, .mov (.tmp 8)⟩,
    ⟨some 5, none, .mov (.tmp 10)⟩] none) <|
  .seq (.region [⟨some 11, none, .mov (.tmp 1)⟩,
    ⟨some 12, none, .mov (.tmp 0)⟩,
    ⟨some 13, none, .mov (.tmp 5)⟩,
    ⟨some 14, none, .iaddr 8 (.tmp 12) (.tmp 13)⟩,
    ⟨some 15, none, .load true 8 (.tmp 14)⟩,
    ⟨some 16, none, .callv (.tmp 11) [.tmp 15]⟩] none) <|
  .cond (.tmp 16)
   (.seq (.region [⟨some 17, none, .mov (.tmp 5)⟩,
     ⟨some 4, none, .mov (.tmp 17)⟩] none) <|
   .ret)
   (.skip)) <|
  .region [⟨some 18, none, .bin .add (.tmp 8) (.const (.int .i64 1))⟩,
    ⟨some 8, none, .mov (.tmp 18)⟩] none) <|
  .seq (.region [⟨some 4, none, .mov (.const (.int .i64 (-1)))⟩] none) <|
  .ret⟩
def fn_slices_ContainsFunc_Cond : AFn := ⟨9, [.tmp 4], false,
  .seq (.region [⟨some 4, none, .mov (.const (.bool false))⟩] none) <|
  .seq (.region [⟨some 5, none, .mov (.tmp 0)⟩,
    ⟨some 6, none, .mov (.tmp 1)⟩,
    ⟨some 7, none, .callf id_slices_IndexFunc_Cond [.tmp 5, .tmp 6]⟩,
    ⟨some 8, none, .bin .geq (.tmp 7) (.const (.int .i64 0))⟩,
    ⟨some 4, none, .mov (.tmp 8)⟩] none) <|
  .ret⟩
def fn_slices_IndexFunc_Side : AFn := ⟨19, [.tmp 4], false,
  .seq (.region [⟨some 4, none, .mov (.const (.int .i64 0))⟩] none) <|
  .seq (.seq (.region [⟨some 6, none, .mov (.tmp 0)⟩,
    ⟨some 7, none, .len 1 (.tmp 6)⟩,
    ⟨some 8, none, .mov (.const (.int .i64 0))⟩] none) <|
  .block 0 <|
  .loop <|
  .seq (.region [⟨some 9, none, .bin .lss (.tmp 8) (.tmp 7)⟩] none) <|
  .seq (.cond (.tmp 9)
   (.skip)
   (.exit 0)) <|
  .seq (.block 1 <|
  .seq (.region [⟨some 10, none, .mov (.tmp 8)⟩,
    ⟨some 5, none, .mov (.tmp 10)⟩] none) <|
  .seq (.region [⟨some 11, none, .mov (.tmp 1)⟩,
    ⟨some 12, none, .mov (.tmp 0)⟩,
    ⟨some 13, none, .mov (.tmp 5)⟩,
    ⟨some 14, none, .iaddr 9 (.tmp 12) (.tmp 13)⟩,
    ⟨some 15, none, .load true 9 (.tmp 14)⟩,
    ⟨some 16, none, .callv (.tmp 11) [.tmp 15]⟩] none) <|
  .cond (.tmp 16)
   (.seq (.region [⟨some 17, none, .mov (.tmp 5)⟩,
     ⟨some 4, none, .mov (.tmp 17)⟩] none) <|
   .ret)
   (.skip)) <|
  .region [⟨some 18, none, .bin .add (.tmp 8) (.const (.int .i64 1))⟩,
    ⟨some 8, none, .mov (.tmp 18)⟩] none) <|
  .seq (.region [⟨some 4, none, .mov (.const (.int .i64 (-1)))⟩] none) <|
  .ret⟩
def fn_slices_ContainsFunc_string : AFn := ⟨9, [.tmp 4], false,
  .seq (.region [⟨some 4, none, .mov (.const (.bool false))⟩] none) <|
  .seq (.region [⟨some 5, none, .mov (.tmp 0)⟩,
    ⟨some 6, none, .mov (.tmp 1)⟩,
    ⟨some 7, none, .callf id_slices_IndexFunc_string [.tmp 5, .tmp 6]⟩,
    ⟨some 8, none, .bin .geq (.tmp 7) (.const (.int .i64 0))⟩,
    ⟨some 4, none, .mov (.tmp 8)⟩] none) <|
  .ret⟩
def fn_slices_IndexFunc_string : AFn := ⟨19, [.tmp 4], false,
  .seq (.region [⟨some 4, none, .mov (.const (.int .i64 0))⟩] none) <|
  .seq (.seq (.region [⟨some 6, none, .mov (.tmp 0)⟩,
    ⟨some 7, none, .len 1 (.tmp 6)⟩,
    ⟨some 8, none, .mov (.const (.int .i64 0))⟩] none) <|
  .block 0 <|
  .loop <|
  .seq (.region [⟨some 9, none, .bin .lss (.tmp 8) (.tmp 7)⟩] none) <|
  .seq (.cond (.tmp 9)
   (.skip)
   (.exit 0)) <|
  .seq (.block 1 <|
  .seq (.region [⟨some 10, none, .mov (.tmp 8)⟩,
    ⟨some 5, none, .mov (.tmp 10)⟩] none) <|
  .seq (.region [⟨some 11, none, .mov (.tmp 1)⟩,
    ⟨some 12, none, .mov (.tmp 0)⟩,
    ⟨some 13, none, .mov (.tmp 5)⟩,
    ⟨some 14, none, .iaddr 1 (.tmp 12) (.tmp 13)⟩,
    ⟨some 15, none, .load false 1 (.tmp 14)⟩,
    ⟨some 16, none, .callv (.tmp 11) [.tmp 15]⟩] none) <|
  .cond (.tmp 16)
   (.seq (.region [⟨some 17, none, .mov (.tmp 5)⟩,
     ⟨some 4, none, .mov (.tmp 17)⟩] none) <|
   .ret)
   (.skip)) <|
  .region [⟨some 18, none, .bin .add (.tmp 8) (.const (.int .i64 1))⟩,
    ⟨some 8, none, .mov (.tmp 18)⟩] none) <|
  .seq (.region [⟨some 4, none, .mov (.const (.int .i64 (-1)))⟩] none) <|
  .ret⟩
def fn_slices_Contains_string : AFn := ⟨9, [.tmp 4], false,
  .seq (.region [⟨some 4, none, .mov (.const (.bool false))⟩] none) <|
  .seq (.region [⟨some 5, none, .mov (.tmp 0)⟩,
    ⟨some 6, none, .mov (.tmp 1)⟩,
    ⟨some 7, none, .callf id_slices_Index_string [.tmp 5, .tmp 6]⟩,
    ⟨some 8, none, .bin .geq (.tmp 7) (.const (.int .i64 0))⟩,
    ⟨some 4, none, .mov (.tmp 8)⟩] none) <|
  .ret⟩
def fn_slices_Index_string : AFn := ⟨19, [.tmp 4], false,
  .seq (.region [⟨some 4, none, .mov (.const (.int .i64 0))⟩] none) <|
  .seq (.seq (.region [⟨some 6, none, .mov (.tmp 0)⟩,
    ⟨some 7, none, .len 1 (.tmp 6)⟩,
    ⟨some 8, none, .mov (.const (.int .i64 0))⟩] none) <|
  .block 0 <|
  .loop <|
  .seq (.region [⟨some 9, none, .bin .lss (.tmp 8) (.tmp 7)⟩] none) <|
  .seq (.cond (.tmp 9)
   (.skip)
   (.exit 0)) <|
  .seq (.block 1 <|
  .seq (.region [⟨some 10, none, .mov (.tmp 8)⟩,
    ⟨some 5, none, .mov (.tmp 10)⟩] none) <|
  .seq (.region [⟨some 11, none, .mov (.tmp 1)⟩,
    ⟨some 12, none, .mov (.tmp 0)⟩,
    ⟨some 13, none, .mov (.tmp 5)⟩,
    ⟨some 14, none, .iaddr 1 (.tmp 12) (.tmp 13)⟩,
    ⟨some 15, none, .load false 1 (.tmp 14)⟩,
    ⟨some 16, none, .bin .eql (.tmp 11) (.tmp 15)⟩] none) <|
  .cond (.tmp 16)
   (.seq (.region [⟨some 17, none, .mov (.tmp 5)⟩,
     ⟨some 4, none, .mov (.tmp 17)⟩] none) <|
   .ret)
   (.skip)) <|
  .region [⟨some 18, none, .bin .add (.tmp 8) (.const (.int .i64 1))⟩,
    ⟨some 8, none, .mov (.tmp 18)⟩] none) <|
  .seq (.region [⟨some 4, none, .mov (.const (.int .i64 (-1)))⟩] none) <|
  .ret⟩
end Go.Am
end
