/- Parts of the proof. -/
import Derived.Orders
import Derived.Recover
import Derived.Test.YtjilaaoaebglbaaGreatDoorA02
set_option linter.unusedVariables false
set_option linter.unusedSimpArgs false
set_option linter.unnecessarySimpa false
set_option linter.unusedSectionVars false
section
namespace Go.Am
open Go Go.RowKit
def EndRep (P : Program) (β : Nat → Option Nat) (S : Nat → Prop) (w : World) : Res → Ending → Prop
  | .ret v, e => ∃ vv, e = .returned vv ∧ rep P β S w v vv
  | .panic v, e => ∃ vv, e = .panicked [{ v := vv, recovered := false }] ∧ rep P β S w v vv
def Goes (P : Program) (f : FuncId) (args : Array Value) (w : World) (R : Ending → World → Prop) : Prop :=
  ((callFunc f args).run P w = .ok (.enter f args) w ∧ Calls P f args w R) ∨ ∃ v w', (callFunc f args).run P w = .ok (.value v) w' ∧ R (.returned v) w'
theorem Goes.mono {P : Program} {f : FuncId} {args : Array Value} {w : World} {R R' : Ending → World → Prop} (h : Goes P f args w R) (hr : ∀ e w', R e w' → R' e w') : Goes P f args w R' :=
  h.imp (fun ⟨h1, h2⟩ => ⟨h1, h2.mono hr⟩) fun ⟨v, w', h1, h2⟩ => ⟨v, w', h1, hr _ _ h2⟩
def Glob (E : Env) (S : Nat → Prop) (w : World) : Prop := ∀ g cs, E.glob g = some cs → S g ∧ srepC S w cs g 0
theorem Glob.ext {E : Env} {S S' : Nat → Prop} {w w' : World} (h : Glob E S w) (hS : ∀ c, S c → S' c) (hk : ∀ c, S c → w'.heap[c]? = w.heap[c]?) : Glob E S' w' := fun g cs hg =>
  ⟨hS g (h g cs hg).1, srepC_ext hS hk cs g 0 (h g cs hg).1 (h g cs hg).2⟩
def CallOK (P : Program) (E : Env) (f : FuncId) (args : List AV) (H : Heap) (nx : Nat) (fz : List Nat) (b : Back) : Prop :=
  ∀ B β S w (vs : List Value), Inv P B β S fz H w → Glob E S w → repL P β S w args vs → fresh β nx b.nx →
    Goes P f vs.toArray w fun e w' => ∃ β' S', Step P B (domB H) β S H nx w β' S' b.fz b.H b.nx w' ∧ EndRep P β' S' w' b.res e
def PureOK (P : Program) (E : Env) (f : FuncId) (args : List AV) (r : Res) : Prop :=
  ∀ S w (vs : List Value), (∀ c, S c → c < w.heap.size) → Glob E S w → srepL S w args vs →
    Goes P f vs.toArray w fun e w' => ∃ S', Below w.heap.size w w' ∧ (∀ c, S c → S' c) ∧ (∀ c, S' c → (S c ∨ w.heap.size ≤ c) ∧ c < w'.heap.size) ∧
      match r with
      | .ret v => ∃ vv, e = .returned vv ∧ srep S' w' v vv
      | .panic v => ∃ vv, e = .panicked [{ v := vv, recovered := false }] ∧ srep S' w' v vv
structure EnvOK (P : Program) (E : Env) : Prop where
  prim : ∀ f g a v, E.prim f = some g → g a = some v → PureOK P E f a (.ret v)
  hprim : ∀ f g args H nx fz b, E.hprim f = some g → g args H nx fz = some b → CallOK P E f args H nx fz b
section
variable {P : Program} {B : Nat} {β : Nat → Option Nat} {S S' : Nat → Prop} {fz : List Nat} {H : Heap} {nx : Nat} {w w' : World} {E : Env} {call : CallT} {f : FuncId} {args : List AV} {b : Back}
theorem shape_old (h : ∀ c, c < w.heap.size → w'.heap[c]? = w.heap[c]?) : ∀ c x, w.shape? c = some x → w'.shape? c = some x := fun c x hx => by
  have hlt : c < w.heap.size := by
    simp only [World.shape?] at hx
    split at hx
    · rename_i hh; exact (Array.getElem?_eq_some_iff.1 hh).1
    · cases hx
  simp only [World.shape?] at hx ⊢
  rw [h c hlt]; exact hx
theorem inv_grown (hI : Inv P B β S fz H w) (hb : Below w.heap.size w w') (hS : ∀ c, S c → S' c) (hS' : ∀ c, S' c → (S c ∨ w.heap.size ≤ c) ∧ c < w'.heap.size) : Ext β S w β S' w' ∧ Inv P B β S' fz H w' := by
  have hE : Ext β S w β S' w' := ⟨fun _ _ h => h, hS, fun c hc => hb.block c (hI.S_lt c hc), shape_old hb.block⟩
  refine ⟨hE, fun b c x h1 h2 => (hI.rb b c x h1 h2).ext hE (hb.block c (hI.β_lt b c h1)), fun b c h1 h2 h3 => ?_, fun b c h1 h2 => hS c (hI.fzS b c h1 h2), hI.inj, fun c hc => (hS' c hc).2, fun b c h => Nat.lt_of_lt_of_le (hI.β_lt b c h) hb.size, hI.fzd, Nat.le_trans hI.B_le hb.size⟩
  obtain ⟨h4, h5⟩ := hI.sep b c h1 h2 h3
  refine ⟨h4, fun h6 => ?_⟩
  rcases (hS' c h6).1 with h7 | h7
  · exact h5 h7
  · have := hI.β_lt b c h1; omega
theorem inv_grown' (hI : Inv P B β S fz H w) (hb : Below w.heap.size w w') : Ext β S w β S w' ∧ Inv P B β S fz H w' :=
  inv_grown hI hb (fun _ h => h) fun c h => ⟨.inl h, Nat.lt_of_lt_of_le (hI.S_lt c h) hb.size⟩
theorem inv_empty (hS : ∀ c, S c → c < w.heap.size) : Inv P w.heap.size (fun _ => none) S [] [] w :=
  ⟨fun _ _ _ h => (by cases h), fun _ _ h => (by cases h), fun _ _ h => (by cases h), fun _ _ _ h => (by cases h), hS, fun _ _ h => (by cases h), fun _ h => (by simp at h), Nat.le_refl _⟩
theorem pure_of_call {a : List AV} {v y : AV} (hc : CallOK P E f a [] 0 [] b) (hv : b.res = .ret v ∨ b.res = .panic v) (hy : frz b.H (depthOf b.nx) v = some y) : PureOK P E f a (match b.res with | .ret _ => .ret y | .panic _ => .panic y) := by
  intro S w vs hS hG hr
  refine (hc w.heap.size (fun _ => none) S w vs (inv_empty hS) hG (repL_of_srepL _ _ hr) (fun _ _ _ => rfl)).mono ?_
  rintro e w' ⟨β', S', hst, hend⟩
  have hβ : ∀ x c, β' x = some c → w.heap.size ≤ c := fun x c h => by
    rcases hst.grow.back h with h1 | h1 | ⟨_, _, h1⟩
    · cases h1
    · exact h1
    · cases h1
  have fin : ∀ vv, rep P β' S' w' v vv → ∃ S2, Below w.heap.size w w' ∧ (∀ c, S c → S2 c) ∧ (∀ c, S2 c → (S c ∨ w.heap.size ≤ c) ∧ c < w'.heap.size) ∧ srep S2 w' y vv := by
    intro vv hvv
    obtain ⟨k1, k2⟩ := frz_rep hst.inv _ v y vv hy hvv
    refine ⟨_, hst.below, fun c h => .inl (hst.ext.st c h), ?_, k1⟩
    rintro c (h | ⟨x, hx, hc⟩)
    · refine ⟨?_, hst.inv.S_lt c h⟩
      rcases hst.snew c h with h1 | h1 | ⟨_, _, h1⟩
      · exact .inl h1
      · exact .inr h1
      · cases h1
    · exact ⟨.inr (hβ x c hc), hst.inv.β_lt x c hc⟩
  cases hres : b.res with
  | ret u =>
    rw [hres] at hv hend
    have hu : u = v := by rcases hv with h | h <;> cases h; rfl
    subst hu
    obtain ⟨vv, he, hvv⟩ := hend
    obtain ⟨S2, h1, h2, h3, h4⟩ := fin vv hvv
    exact ⟨S2, h1, h2, h3, vv, he, h4⟩
  | panic u =>
    rw [hres] at hv hend
    have hu : u = v := by rcases hv with h | h <;> cases h; rfl
    subst hu
    obtain ⟨vv, he, hvv⟩ := hend
    obtain ⟨S2, h1, h2, h3, h4⟩ := fin vv hvv
    exact ⟨S2, h1, h2, h3, vv, he, h4⟩
theorem pback_ok {a : List AV} {r : AV → Res} {y : AV} (hr : r = .ret ∨ r = .panic) (hfr : args.mapM (frz H (depthOf nx)) = some a) (hp : PureOK P E f a (r y))
    (hb : pback (args.flatMap (tch H (depthOf nx))) H nx fz r y = some b) : CallOK P E f args H nx fz b := by
  simp only [pback, Option.some.injEq] at hb
  subst hb
  intro B β S w vs hI hG hrep hf
  obtain ⟨k1, k2⟩ := frzL_rep hI _ args a vs hfr hrep
  have hS1 : ∀ c, withT β S (args.flatMap (tch H (depthOf nx))) c → c < w.heap.size := by
    rintro c (h | ⟨x, _, hx⟩)
    · exact hI.S_lt c h
    · exact hI.β_lt x c hx
  refine (hp _ w vs hS1 (hG.ext (fun _ h => .inl h) fun _ _ => rfl) k1).mono ?_
  rintro e w' ⟨S2, h1, h2, h3, h4⟩
  have hend : ∀ β' S', (∀ vv, srep S2 w' y vv → rep P β' S' w' y vv) → EndRep P β' S' w' (r y) e := by
    intro β' S' hh
    rcases hr with rfl | rfl
    · obtain ⟨vv, he, hv⟩ := h4; exact ⟨vv, he, hh vv hv⟩
    · obtain ⟨vv, he, hv⟩ := h4; exact ⟨vv, he, hh vv hv⟩
  cases hn : hasRef y with
  | false =>
    obtain ⟨hE, hI'⟩ := inv_grown' hI h1
    exact ⟨β, S, ⟨hE, by simpa using hI', h1.mono hI.B_le, Grow.refl _ _ _ _, fun c hc _ => h1.block c hc, fun _ h => .inl h, fun _ h => .inl h⟩, hend _ _ fun vv hv => rep_of_srep _ _ (srep_noRef hv hn)⟩
  | true =>
    have hI1 := inv_freeze hI _ k2 ((args.flatMap (tch H (depthOf nx))).filter (fun x => !fz.contains x) ++ fz) fun x => by
      rw [Bool.eq_iff_iff]
      simp
      by_cases e1 : x ∈ fz <;> simp [e1]
    obtain ⟨hE, hI'⟩ := inv_grown hI1 h1 h2 h3
    refine ⟨β, S2, ⟨?_, by simpa using hI', h1.mono hI.B_le, Grow.refl _ _ _ _, fun c hc _ => h1.block c hc, fun c hc => ?_, fun _ h => .inl h⟩, hend _ _ fun vv hv => rep_of_srep _ _ hv⟩
    · exact ⟨fun _ _ h => h, fun c h => h2 c (.inl h), fun c hc => h1.block c (hI.S_lt c hc), shape_old h1.block⟩
    · rcases (h3 c hc).1 with (h | ⟨x, hx, hc'⟩) | h
      · exact .inl h
      · exact .inr (.inr ⟨x, (k2 x hx).2, hc'⟩)
      · exact .inr (.inl h)
theorem hback_ok {T : List Nat} {b0 : Option Back} (h0 : ∀ b', b0 = some b' → CallOK P E f args (restrict H T) nx (T.filter fun x => fz.contains x) b') (hb : hback T H nx fz b0 = some b) : CallOK P E f args H nx fz b := by
  cases b0 with
  | none => cases hb
  | some b' =>
    simp only [hback] at hb
    split at hb
    case isFalse => cases hb
    rename_i hle
    simp only [Option.some.injEq] at hb
    subst hb
    intro B β S w vs hI hG hrep hf
    have hg := getB_restrict H T
    have hI' : Inv P B β S (T.filter fun x => fz.contains x) (restrict H T) w := inv_less hI (fun x blk h => by rw [hg] at h; split at h; exact h; cases h) (fun x h => by
        rw [hg] at h
        split at h
        · rename_i hx; rw [Bool.eq_iff_iff]; simp [hx]
        · cases h) (fun x h => by simp at h ⊢; exact h.2)
    refine (h0 b' rfl B β S w vs hI' hG hrep hf).mono ?_
    rintro e w' ⟨β', S', hst, hend⟩
    exact ⟨β', S', (step_merge hI hg hf _ (fun x => by
      rw [Bool.eq_iff_iff]
      simp
      by_cases e : x ∈ fz <;> simp [e]
      exact and_comm) hst).mono fun x hx => hx.2, hend⟩
theorem callA_ok (hE : EnvOK P E) (hcall : ∀ f args H nx fz b, call f args H nx fz none = some b → CallOK P E f args H nx fz b) (h : callA E call f args H nx fz = some b) : CallOK P E f args H nx fz b := by
  simp only [callA] at h
  split at h
  · rename_i g hg
    exact hback_ok (fun b' hb' => hE.hprim f g _ _ _ _ b' hg hb') h
  · split at h
    · rename_i g hg
      split at h
      · rename_i a ha
        split at h
        · rename_i v hv
          exact pback_ok (.inl rfl) ha (hE.prim f g a v hg hv) h
        · cases h
      · cases h
    · split at h
      · cases h
      · rename_i fn hfn
        split at h
        · exact hback_ok (fun b' hb' => hcall f _ _ _ _ b' hb') h
        · split at h
          · rename_i a ha
            split at h
            · rename_i b1 hb1
              have hok := hcall _ _ _ _ _ _ hb1
              split at h
              · rename_i v hv
                split at h
                · rename_i y hy
                  have := pure_of_call hok (.inl hv) hy
                  rw [hv] at this
                  exact pback_ok (.inl rfl) ha this h
                · cases h
              · rename_i v hv
                split at h
                · rename_i y hy
                  have := pure_of_call hok (.inr hv) hy
                  rw [hv] at this
                  exact pback_ok (.inr rfl) ha this h
                · cases h
            · cases h
          · cases h
end
end Go.Am
end
section
namespace Go.Am
open Go Go.RowKit
def Env.gl (E : Env) (g : Nat) : Bool := (E.glob g).isSome
def DefsRep (P : Program) (β : Nat → Option Nat) (S : Nat → Prop) (w : World) : List (FuncId × List AV) → List Deferred → Prop
  | [], ds => ds = []
  | (f, xs) :: r, ds => ∃ d ds', ds = d :: ds' ∧ (∃ (cap : Array Value) (vs : List Value), d.target = .fn (.func f) cap ∧ d.args ++ cap = vs.toArray ∧ repL P β S w xs vs) ∧ DefsRep P β S w r ds'
structure Fr (P : Program) (E : Env) (B : Nat) (β : Nat → Option Nat) (S : Nat → Prop) (s : St) (a : Act) (w : World) : Prop where
  inv : Inv P B β S s.fz s.H w
  glob : Glob E S w
  tmp : ∀ t, rep P β S w (getT s.tmps t) (a.eval (.tmp t))
  size : s.tmps.length = a.tmps.size
  defs : DefsRep P β S w s.defers a.defers
def Alike (d : Option Tmp) (a a' : Act) : Prop := ∀ t, d ≠ some t → a'.eval (.tmp t) = a.eval (.tmp t)
section
variable {P : Program} {E : Env} {B : Nat} {β β' : Nat → Option Nat} {S S' : Nat → Prop} {s s' : St} {a a' : Act} {w w' : World} {call : CallT} {ops : Array Oper} {o : Oper} {ao : AOp} {i : Nat} {x : Ex} {K : Act → World → Prop} {Q : Exit → Act → World → Prop}
theorem defs_ext (hx : Ext β S w β' S' w') : ∀ (l : List (FuncId × List AV)) (ds : List Deferred), DefsRep P β S w l ds → DefsRep P β' S' w' l ds
  | [], ds, h => h
  | (f, xs) :: r, ds, h => by
    obtain ⟨d, ds', h1, ⟨cap, vs, h2, h3, h4⟩, h5⟩ := h
    exact ⟨d, ds', h1, ⟨cap, vs, h2, h3, repL_ext hx _ _ h4⟩, defs_ext hx r ds' h5⟩
theorem Fr.step (h : Fr P E B β S s a w) {fz' : List Nat} {H' : Heap} {nx' : Nat} (hx : Ext β S w β' S' w') (hi : Inv P B β' S' fz' H' w') : Fr P E B β' S' { s with H := H', nx := nx', fz := fz' } a w' :=
  ⟨hi, h.glob.ext hx.st hx.keep, fun t => rep_ext hx _ _ (h.tmp t), h.size, defs_ext hx _ _ h.defs⟩
theorem getT_set (l : List AV) (d : Nat) (v : AV) (t : Nat) : getT (l.set d v) t = if d = t ∧ t < l.length then v else getT l t := by
  simp only [getT, List.getD_eq_getElem?_getD, List.getElem?_set]
  by_cases e : d = t
  · subst e
    by_cases e2 : d < l.length
    · simp [e2]
    · simp [e2, List.getElem?_eq_none (Nat.le_of_not_lt e2)]
  · simp [e]
theorem eval_put (a : Act) (d : Nat) (v : Value) (t : Nat) : (a.put (some d) v).eval (.tmp t) = if d = t ∧ t < a.tmps.size then v else a.eval (.tmp t) := by
  simp only [Act.put, Act.eval, Array.getD_eq_getD_getElem?, Array.getElem?_setIfInBounds]
  by_cases e : d = t
  · subst e
    by_cases e2 : d < a.tmps.size
    · simp [e2]
    · simp [e2]
  · simp [e]
theorem alike_put (a : Act) (d : Option Tmp) (v : Value) : Alike d a (a.put d v) := fun t ht => by
  cases d with
  | none => rfl
  | some d => rw [eval_put, if_neg]; rintro ⟨rfl, _⟩; exact ht rfl
theorem Fr.put (h : Fr P E B β S s a w) (d : Option Nat) {v : AV} {vv : Value} (hv : rep P β S w v vv) : Fr P E B β S (s.put d v) (a.put d vv) w := by
  cases d with
  | none => exact h
  | some d =>
    refine ⟨h.inv, h.glob, fun t => ?_, by simp [St.put, Act.put, h.size], by simpa [St.put, Act.put] using h.defs⟩
    rw [eval_put]
    show rep P β S w (getT (s.tmps.set d v) t) _
    rw [getT_set, h.size]
    split
    · exact hv
    · exact h.tmp t
theorem Fr.opnds (h : Fr P E B β S s a w) : Opnds P E.gl β S w (s.eval E) a.eval := fun y z hz => by
  cases y with
  | tmp t => simp only [compO] at hz; cases hz; exact h.tmp t
  | const v =>
    simp only [compO] at hz
    obtain ⟨u, hu, rfl⟩ := Option.map_eq_some_iff.1 hz
    exact rep_of_ofV hu
  | global g =>
    simp only [compO] at hz
    split at hz
    · rename_i hg
      cases hz
      obtain ⟨cs, hcs⟩ := Option.isSome_iff_exists.1 hg
      obtain ⟨h1, h2⟩ := h.glob g cs hcs
      simp only [St.eval, hcs, Act.eval, rep, srep]
      exact ⟨g, 0, rfl, h1, h2⟩
    · cases hz
  | func f =>
    simp only [compO] at hz
    cases hz
    simp only [St.eval, Act.eval, rep]
    exact ⟨[], [], rfl, by simp [repL], by simp [repL]⟩
theorem bool_of_rep {y : AV} {b : Bool} (h : rep P β S w y (.bool b)) (hd : y.isDead = false) : y = .bool b := by
  cases y <;> simp only [rep, srep] at h <;> first
    | (cases h; rfl)
    | (cases h; done)
    | (obtain ⟨_, h, _⟩ := h; cases h; done)
    | (obtain ⟨_, _, h⟩ := h; cases h; done)
    | (obtain ⟨_, _, h, _⟩ := h; cases h; done)
    | (obtain ⟨_, _, _, h, _⟩ := h; cases h; done)
    | (obtain ⟨_, _, _, _, _, h, _⟩ := h; cases h; done)
    | (cases hd; done)
theorem wanted_ok (hF : Fr P E B β S s a w) (hc : compOp P E.gl ops o = some ao) {b : Bool} (h : wantedA s ao.guard = some b) : Region.wanted o (yielded ops a.tmps) = b := by
  unfold compOp at hc
  split at hc
  · cases hc
  · split at hc
    · rename_i hg
      cases hc
      simp only [wantedA] at h
      cases h
      simp [Region.wanted, hg]
    · rename_i j want hg
      split at hc
      · rename_i t ht
        cases hc
        have htmp := hF.tmp t
        have hy : yielded ops a.tmps j = match a.tmps[t]? with | some (.bool b) => some b | _ => none := by
          unfold yielded
          rw [ht]; rfl
        have hw : Region.wanted o (yielded ops a.tmps) = (yielded ops a.tmps j == some want) := by simp [Region.wanted, hg]
        rw [hw, hy]
        simp only [wantedA] at h
        have hev : a.eval (.tmp t) = (a.tmps[t]?).getD undef := by simp [Act.eval, Array.getD_eq_getD_getElem?]
        rw [hev] at htmp
        split at h
        · rename_i c hcc
          cases h
          rw [hcc] at htmp
          simp only [rep] at htmp
          cases hq : a.tmps[t]? with
          | none => rw [hq] at htmp; cases htmp
          | some u => rw [hq] at htmp; simp at htmp; subst htmp; simp
        · cases h
        · rename_i y hnb hnd
          cases h
          cases hq : a.tmps[t]? with
          | none => rfl
          | some u =>
            rw [hq] at htmp
            cases u with
            | bool d =>
              exact absurd (bool_of_rep htmp (by
                cases hyy : getT s.tmps t <;> first | rfl | exact absurd hyy hnd)) (hnb d)
            | _ => rfl
      · cases hc
theorem repL_of_args (hO : Opnds P E.gl β S w (s.eval E) a.eval) : ∀ (l : List Operand) (ys : List Opnd), l.mapM (compO E.gl) = some ys → repL P β S w (ys.map (s.eval E)) (l.map a.eval)
  | [], ys, h => by simp at h; subst h; simp [repL]
  | z :: r, ys, h => by
    obtain ⟨y, zs, h1, h2, rfl⟩ := mapM_cons_some h
    simp only [List.map_cons, repL]
    exact ⟨_, _, rfl, hO z y h1, repL_of_args hO r zs h2⟩
def doesOp (P : Program) (ops : Array Oper) (Q : Exit → Act → World → Prop) (i : Nat) (K : Act → World → Prop) (a : Act) (w : World) : Prop :=
  match ops[i]? with
  | none => False
  | some o => if Region.wanted o (yielded ops a.tmps) then o.wp P a w K Q else K (a.put o.dst undef) w
theorem doesOp.wpOp (h : doesOp P ops Q i K a w) : wpOp P ops Q i K a w := by
  unfold doesOp at h
  unfold Go.wpOp
  split at h
  · exact h.elim
  · rename_i o ho
    simp only [ho]
    split at h
    · rename_i hw; simp only [hw, if_true]; exact .inl h
    · rename_i hw; simp only [hw]; exact h
theorem goes_wpOp {f : FuncId} {vs : Array Value} {R : Ending → World → Prop} (ho : ops[i]? = some o) (hw : Region.wanted o (yielded ops a.tmps) = true)
    (hrun : (execOp a.eval o).run P w = (callFunc f vs).run P w) (hg : Goes P f vs w R)
    (hret : ∀ v w', R (.returned v) w' → K (a.put o.dst v) w') (hpan : ∀ ch w', R (.panicked ch) w' → Q (.panic ch) a w') (hout : ∀ w', ¬ R .outgrown w') : doesOp P ops Q i K a w := by
  unfold doesOp
  simp only [ho, hw, if_true]
  unfold Oper.wp
  rw [hrun]
  rcases hg with ⟨h1, h2⟩ | ⟨v, w', h1, h2⟩
  · rw [h1, Oper.upon_enter]
    refine h2.mono fun e w' he => ?_
    cases e with
    | returned v => exact hret v w' he
    | panicked ch => exact hpan ch w' he
    | outgrown => exact absurd he (hout w')
  · rw [h1, Oper.upon_value]
    exact hret v w' h2
theorem value_wpOp {nv : Next} {vv : Value} (ho : ops[i]? = some o) (hw : Region.wanted o (yielded ops a.tmps) = true)
    (hrun : (execOp a.eval o).run P w = .ok nv w') (hnv : nv = .value vv ∨ (nv = .skip ∧ vv = undef)) (hk : K (a.put o.dst vv) w') : doesOp P ops Q i K a w := by
  unfold doesOp
  simp only [ho, hw, if_true]
  unfold Oper.wp
  rw [hrun]
  rcases hnv with rfl | ⟨rfl, rfl⟩
  · rw [Oper.upon_value]; exact hk
  · rw [Oper.upon_skip]; exact hk
end
end Go.Am
end
section
namespace Go.Am
open Go
inductive Heaps (wr : List Nat) (H : Heap) (nx : Nat) : Heap → Nat → Prop
  | same : Heaps wr H nx H nx
  | alloc (x : Blk) : Heaps wr H nx (setB H nx (some x)) (nx + 1)
  | set (b : Nat) (x : Blk) (hb : (getB H b).isSome = true) (hw : wr = [b]) : Heaps wr H nx (setB H b (some x)) nx
  | moved (b : Nat) (x : Blk) (hb : (getB H b).isSome = true) (hw : wr = [b]) : Heaps wr H nx (setB (setB H b none) nx (some x)) (nx + 1)
section
variable {ρ : Opnd → AV} {fz : List Nat} {nx nx' : Nat} {H H' : Heap} {i : Insn} {v : AV} {wr : List Nat}
theorem heaps_pure {r : Option AV} (h : Out.pure H nx r = some (v, H', nx')) : Heaps wr H nx H' nx' := by
  obtain ⟨u, _, h⟩ := Option.map_eq_some_iff.1 h
  cases h
  exact .same
theorem heaps_append {elem : TypeId} {sz bytes n : Nat} {s : AV} {new : List AV} (h : appendA fz nx H elem sz bytes s new n = some (v, H', nx')) (hw : ∀ b o l, s = .sl b o l → wr = [b]) : Heaps wr H nx H' nx' := by
  unfold appendA at h
  split at h
  · split at h
    · cases h; exact .same
    · split at h
      · cases h; exact .alloc _
      · cases h
  · rename_i b len
    split at h
    · rename_i e s' cs hg
      split at h
      · cases h; exact .moved b _ (by rw [hg]; rfl) (hw b _ _ rfl)
      · cases h
    · cases h
  · cases h
theorem heaps (h : evalI ρ fz nx H i = some (v, H', nx')) : Heaps (wrOf ρ i) H nx H' nx' := by
  cases i
  case store n a x =>
    simp only [evalI] at h
    split at h
    · rename_i b off hb
      split at h
      · rename_i e s cs hg
        split at h
        · cases h
          exact .set b _ (by rw [hg]; rfl) (by simp [wrOf, hb])
        · cases h
      · cases h
    · cases h
  case insert kind m k x =>
    simp only [evalI] at h
    split at h
    · rename_i b hb
      split at h
      · rename_i ks vs hg
        split at h
        · cases h; exact .set b _ (by rw [hg]; rfl) (by simp [wrOf, hb])
        · cases h; exact .set b _ (by rw [hg]; rfl) (by simp [wrOf, hb])
        · cases h
      · cases h
    · cases h
  case copy sz d x =>
    simp only [evalI] at h
    split at h
    · rename_i b off len hb
      split at h
      · rename_i e s' cs src hg hs
        split at h
        · cases h; exact .set b _ (by rw [hg]; rfl) (by simp [wrOf, hb])
        · cases h
      · cases h
    · cases h
  case append elem sz bytes s x =>
    simp only [evalI] at h
    have hw : ∀ b o l, ρ s = .sl b o l → wrOf ρ (.append elem sz bytes s x) = [b] := fun b o l hb => by simp [wrOf, hb]
    split at h
    · split at h
      · exact heaps_append h hw
      · cases h
    · split at h
      · exact heaps_append h hw
      · cases h
  case appendz elem sz bytes zero s x =>
    simp only [evalI] at h
    have hw : ∀ b o l, ρ s = .sl b o l → wrOf ρ (.appendz elem sz bytes zero s x) = [b] := fun b o l hb => by simp [wrOf, hb]
    split at h
    · split at h
      · exact heaps_append h hw
      · cases h
    · cases h
  case slice str sz x lo hi =>
    simp only [evalI] at h
    repeat' split at h
    all_goals first
      | (cases h; done)
      | (cases h; exact .same)
  case lookup kind zero ok x k =>
    simp only [evalI] at h
    split at h
    · split at h
      · cases h; exact .same
      · cases h
    · cases h
  all_goals
    simp only [evalI] at h
    first
      | (cases h; done)
      | exact heaps_pure h
      | (cases h; exact .same)
      | (cases h; exact .alloc _)
      | (repeat' split at h
         all_goals first
           | (cases h; done)
           | exact heaps_pure h
           | (cases h; exact .same)
           | (cases h; exact .alloc _))
theorem Heaps.dom (h : Heaps wr H nx H' nx') (b : Nat) (hb : (getB H' b).isSome = true) : (getB H b).isSome = true ∨ (nx ≤ b ∧ b < nx') := by
  cases h with
  | same => exact .inl hb
  | alloc x =>
    rw [getB_setB] at hb
    by_cases e : b = nx
    · exact .inr ⟨by omega, by omega⟩
    · rw [if_neg e] at hb; exact .inl hb
  | set c x hc hw =>
    rw [getB_setB] at hb
    by_cases e : b = c
    · subst e; exact .inl hc
    · rw [if_neg e] at hb; exact .inl hb
  | moved c x hc hw =>
    rw [getB_setB] at hb
    by_cases e : b = nx
    · exact .inr ⟨by omega, by omega⟩
    · rw [if_neg e, getB_setB] at hb
      by_cases e2 : b = c
      · rw [if_pos e2] at hb; cases hb
      · rw [if_neg e2] at hb; exact .inl hb
theorem Heaps.num (h : Heaps wr H nx H' nx') : nx' = nx ∨ nx' = nx + 1 := by
  cases h <;> simp
theorem wrOf_some (h : evalI ρ fz nx H i = some (v, H', nx')) {b : Nat} (hb : b ∈ wrOf ρ i) : (getB H b).isSome = true := by
  cases i <;> simp only [wrOf] at hb <;> first
    | (cases hb; done)
    | skip
  case store n a x =>
    simp only [evalI] at h
    split at h
    · rename_i c off hc
      simp [hc] at hb; subst hb
      split at h
      · rename_i hg; rw [hg]; rfl
      · cases h
    · cases h
  case insert kind m k x =>
    simp only [evalI] at h
    split at h
    · rename_i c hc
      simp [hc] at hb; subst hb
      split at h
      · rename_i hg; rw [hg]; rfl
      · cases h
    · cases h
  case copy sz d x =>
    simp only [evalI] at h
    split at h
    · rename_i c off len hc
      simp [hc] at hb; subst hb
      split at h
      · rename_i hg hs; rw [hg]; rfl
      · cases h
    · cases h
  all_goals
    have key : ∀ {elem : TypeId} {sz bytes n : Nat} {s : AV} {new : List AV} {c o l : Nat}, s = .sl c o l → appendA fz nx H elem sz bytes s new n = some (v, H', nx') → (getB H c).isSome = true := by
      intro elem sz bytes n s new c o l hs h
      subst hs
      unfold appendA at h
      split at h
      · rename_i h'; cases h'
      · rename_i b' len' h'
        cases h'
        split at h
        · rename_i hg; rw [hg]; rfl
        · cases h
      · cases h
    split at hb
    · rename_i c o l hc
      simp at hb; subst hb
      simp only [evalI] at h
      repeat' split at h
      all_goals first
        | (cases h; done)
        | exact key hc h
    · cases hb
end
end Go.Am
end
section
namespace Go.Am
open Go Go.RowKit
section
variable {P : Program} {E : Env} {B : Nat} {β β' : Nat → Option Nat} {S S' : Nat → Prop} {s s' : St} {a a' : Act} {w w' : World} {call : CallT} {ops : Array Oper} {o : Oper} {ao : AOp} {i : Nat} {x : Ex} {K : Act → World → Prop} {Q : Exit → Act → World → Prop}
theorem good_step {ρ : Opnd → AV} {fz : List Nat} {H H' : Heap} {nx nx' : Nat} {ins : Insn} {v : AV} {r : Result Next} (he : evalI ρ fz nx H ins = some (v, H', nx')) (h : Good P B β S fz nx (wrOf ρ ins) w v H' nx' r) :
    ∃ nv w' β' S' vv, r = .ok nv w' ∧ (nv = .value vv ∨ (nv = .skip ∧ vv = undef)) ∧ Step P B (domB H) β S H nx w β' S' fz H' nx' w' ∧ rep P β' S' w' v vv := by
  obtain ⟨nv, w', β', S', vv, h1, h2, h3, h4, h5, h6, h7, h8, h9⟩ := h
  have hd : ∀ b, b ∈ wrOf ρ ins → domB H b := fun b hb => wrOf_some he hb
  refine ⟨nv, w', β', S', vv, h1, h2, ⟨h3, h4, h6, ?_, fun c hc hb => h8 c hc fun b hb' => hb b (hd b hb'), fun c hc => (h9 c hc).imp id .inl, (heaps he).dom⟩, h5⟩
  exact ⟨h7.1, fun b => (h7.2 b).imp id fun ⟨q1, q2, c, q3, q4⟩ => ⟨q1, q2, c, q3, q4.imp id fun ⟨b0, q5, q6⟩ => ⟨b0, hd b0 q5, q6⟩⟩⟩
theorem compOp_parts (hc : compOp P E.gl ops o = some ao) : compI P E.gl o.op = some ao.ins ∧ ao.dst = o.dst := by
  unfold compOp at hc
  split at hc
  · cases hc
  · rename_i ins hi
    split at hc
    · cases hc; exact ⟨hi, rfl⟩
    · split at hc
      · cases hc; exact ⟨hi, rfl⟩
      · cases hc
theorem compI_callf {op : Op} {f : FuncId} {args : List Opnd} (h : compI P E.gl op = some (.callf f args)) : ∃ c : Call, op = .call c ∧ c.callee = .value (.func f) ∧ c.args.toList.mapM (compO E.gl) = some args := by
  cases op
  case call c =>
    refine ⟨c, rfl, ?_⟩
    simp only [compI, compCall] at h
    split at h
    · cases h
    · rename_i as has
      split at h
      case h_1 g hg => cases h; exact ⟨hg, has⟩
      all_goals
        first
          | (obtain ⟨_, _, h⟩ := Option.map_eq_some_iff.1 h; cases h; done)
          | (repeat' split at h
             all_goals first
               | (cases h; done)
               | (obtain ⟨_, _, h⟩ := Option.map_eq_some_iff.1 h; cases h; done))
  all_goals
    exfalso
    simp only [compI, compBin, compConv] at h
    first
      | (cases h; done)
      | (obtain ⟨_, _, h⟩ := Option.map_eq_some_iff.1 h; cases h; done)
      | (repeat' split at h
         all_goals first
           | contradiction
           | (cases h; done)
           | (obtain ⟨_, _, h⟩ := Option.map_eq_some_iff.1 h; cases h; done))
theorem compI_callv {op : Op} {y : Opnd} {args : List Opnd} (h : compI P E.gl op = some (.callv y args)) : ∃ (c : Call) (z : Operand), op = .call c ∧ c.callee = .value z ∧ compO E.gl z = some y ∧ c.args.toList.mapM (compO E.gl) = some args := by
  cases op
  case call c =>
    refine ⟨c, ?_⟩
    simp only [compI, compCall] at h
    split at h
    · cases h
    · rename_i as has
      split at h
      case h_2 z hz hg => obtain ⟨u, hu, h⟩ := Option.map_eq_some_iff.1 h; cases h; exact ⟨_, rfl, hg, hu, has⟩
      all_goals
        first
          | (cases h; done)
          | (repeat' split at h
             all_goals first
               | (cases h; done)
               | (obtain ⟨_, _, h⟩ := Option.map_eq_some_iff.1 h; cases h; done))
  all_goals
    exfalso
    simp only [compI, compBin, compConv] at h
    first
      | (cases h; done)
      | (obtain ⟨_, _, h⟩ := Option.map_eq_some_iff.1 h; cases h; done)
      | (repeat' split at h
         all_goals first
           | contradiction
           | (cases h; done)
           | (obtain ⟨_, _, h⟩ := Option.map_eq_some_iff.1 h; cases h; done))
theorem compI_panic {op : Op} {y : Opnd} (h : compI P E.gl op = some (.panic y)) : ∃ z, op = .panic z ∧ compO E.gl z = some y := by
  cases op
  case panic z =>
    simp only [compI] at h
    obtain ⟨u, hu, h⟩ := Option.map_eq_some_iff.1 h
    cases h
    exact ⟨z, rfl, hu⟩
  all_goals
    exfalso
    simp only [compI, compBin, compConv, compCall] at h
    first
      | (cases h; done)
      | (obtain ⟨_, _, h⟩ := Option.map_eq_some_iff.1 h; cases h; done)
      | (repeat' split at h
         all_goals first
           | contradiction
           | (cases h; done)
           | (obtain ⟨_, _, h⟩ := Option.map_eq_some_iff.1 h; cases h; done))
theorem compI_defer {op : Op} {y : Opnd} {args : List Opnd} (h : compI P E.gl op = some (.defer y args)) : ∃ (c : Call) (z : Operand), op = .defer c ∧ c.callee = .value z ∧ compO E.gl z = some y ∧ c.args.toList.mapM (compO E.gl) = some args := by
  cases op
  case defer c =>
    refine ⟨c, ?_⟩
    simp only [compI] at h
    split at h
    · rename_i z as hz has
      obtain ⟨u, hu, h⟩ := Option.map_eq_some_iff.1 h
      cases h
      exact ⟨z, rfl, hz, hu, has⟩
    · cases h
  all_goals
    exfalso
    simp only [compI, compBin, compConv, compCall] at h
    first
      | (cases h; done)
      | (obtain ⟨_, _, h⟩ := Option.map_eq_some_iff.1 h; cases h; done)
      | (repeat' split at h
         all_goals first
           | contradiction
           | (cases h; done)
           | (obtain ⟨_, _, h⟩ := Option.map_eq_some_iff.1 h; cases h; done))
theorem compI_recover {op : Op} (h : compI P E.gl op = some .recover) : ∃ c : Call, op = .call c ∧ c.callee = .builtin .recover := by
  cases op
  case call c =>
    refine ⟨c, rfl, ?_⟩
    simp only [compI, compCall] at h
    split at h
    · cases h
    · rename_i as has
      split at h
      all_goals
        first
          | assumption
          | (cases h; done)
          | (obtain ⟨_, _, h⟩ := Option.map_eq_some_iff.1 h; cases h; done)
          | (repeat' split at h
             all_goals first
               | assumption
               | (cases h; done)
               | (obtain ⟨_, _, h⟩ := Option.map_eq_some_iff.1 h; cases h; done))
  all_goals
    exfalso
    simp only [compI, compBin, compConv] at h
    first
      | (cases h; done)
      | (obtain ⟨_, _, h⟩ := Option.map_eq_some_iff.1 h; cases h; done)
      | (repeat' split at h
         all_goals first
           | contradiction
           | (cases h; done)
           | (obtain ⟨_, _, h⟩ := Option.map_eq_some_iff.1 h; cases h; done))
end
end Go.Am
end
section
namespace Go.Am
open Go Go.RowKit
def CallsOK (P : Program) (E : Env) (call : CallT) : Prop := ∀ f args H nx fz b, call f args H nx fz none = some b → CallOK P E f args H nx fz b
section
variable {P : Program} {E : Env} {B : Nat} {β β' : Nat → Option Nat} {S S' : Nat → Prop} {s s' : St} {a a' : Act} {w w' : World} {call : CallT} {ops : Array Oper} {o : Oper} {ao : AOp} {i : Nat} {x : Ex} {K : Act → World → Prop} {Q : Exit → Act → World → Prop}
theorem put_fields (s : St) (d : Option Nat) (v : AV) : (s.put d v).H = s.H ∧ (s.put d v).nx = s.nx ∧ (s.put d v).fz = s.fz ∧ (s.put d v).defers = s.defers ∧ (s.put d v).recd = s.recd := by
  cases d <;> exact ⟨rfl, rfl, rfl, rfl, rfl⟩
theorem callop_ok {f : FuncId} {args : List AV} {vs : List Value} {b : Back} {d : Option Nat} (hd : d = o.dst) (ho : ops[i]? = some o) (hw : Region.wanted o (yielded ops a.tmps) = true) (hF : Fr P E B β S s a w)
    (hrun : (execOp a.eval o).run P w = (callFunc f vs.toArray).run P w) (hok : CallOK P E f args s.H s.nx s.fz b) (hargs : repL P β S w args vs) (hf : fresh β s.nx b.nx)
    (hK : ∀ v, b.res = .ret v → ∀ β' S' a' w', Step P B (domB s.H) β S s.H s.nx w β' S' b.fz b.H b.nx w' → Fr P E B β' S' ({ s with H := b.H, nx := b.nx, fz := b.fz }.put d v) a' w' → Alike o.dst a a' → K a' w')
    (hQ : ∀ v, b.res = .panic v → ∀ β' S' w' vv, Step P B (domB s.H) β S s.H s.nx w β' S' b.fz b.H b.nx w' → Fr P E B β' S' { s with H := b.H, nx := b.nx, fz := b.fz } a w' → rep P β' S' w' v vv → Q (.panic [{ v := vv, recovered := false }]) a w') :
    doesOp P ops Q i K a w := by
  subst hd
  refine goes_wpOp ho hw hrun (hok B β S w vs hF.inv hF.glob hargs hf) ?_ ?_ ?_
  · rintro v w' ⟨β', S', hst, hend⟩
    have hF' := hF.step hst.ext hst.inv (nx' := b.nx)
    cases hres : b.res with
    | ret u =>
      rw [hres] at hend
      obtain ⟨vv, he, hv⟩ := hend
      cases he
      exact hK u hres β' S' _ w' hst (hF'.put _ hv) (alike_put _ _ _)
    | panic u => rw [hres] at hend; obtain ⟨vv, he, hv⟩ := hend; cases he
  · rintro ch w' ⟨β', S', hst, hend⟩
    have hF' := hF.step hst.ext hst.inv (nx' := b.nx)
    cases hres : b.res with
    | ret u => rw [hres] at hend; obtain ⟨vv, he, hv⟩ := hend; cases he
    | panic u =>
      rw [hres] at hend
      obtain ⟨vv, he, hv⟩ := hend
      cases he
      exact hQ u hres β' S' w' vv hst hF' hv
  · rintro w' ⟨β', S', hst, hend⟩
    cases hres : b.res with
    | ret u => rw [hres] at hend; obtain ⟨vv, he, hv⟩ := hend; cases he
    | panic u => rw [hres] at hend; obtain ⟨vv, he, hv⟩ := hend; cases he
theorem evalOp_ok (hE : EnvOK P E) (hcall : CallsOK P E call) (ho : ops[i]? = some o) (hc : compOp P E.gl ops o = some ao) (hF : Fr P E B β S s a w)
    (he : evalOp E call none ao s = some (x, s')) (hf : fresh β s.nx s'.nx)
    (hK : x = .normal → ∀ β' S' a' w', Step P B (domB s.H) β S s.H s.nx w β' S' s'.fz s'.H s'.nx w' → Fr P E B β' S' s' a' w' → Alike o.dst a a' → K a' w')
    (hQ : ∀ v, x = .panic v → ∀ β' S' w' vv, Step P B (domB s.H) β S s.H s.nx w β' S' s'.fz s'.H s'.nx w' → Fr P E B β' S' s' a w' → rep P β' S' w' v vv → Q (.panic [{ v := vv, recovered := false }]) a w') :
    doesOp P ops Q i K a w := by
  obtain ⟨hci, hdst⟩ := compOp_parts hc
  have hO := hF.opnds
  simp only [evalOp] at he
  split at he
  · cases he
  · -- not wanted
    rename_i hwn
    have hw := wanted_ok hF hc hwn
    cases he
    obtain ⟨q1, q2, q3, q4, q5⟩ := put_fields s ao.dst undefA
    unfold doesOp
    simp only [ho, hw, Bool.false_eq_true, if_false]
    have hu : rep P β S w undefA undef := by simp only [undefA, rep]; exact ⟨[], rfl, by simp [repL]⟩
    refine hK rfl β S _ w ?_ (by rw [← hdst]; exact hF.put _ hu) (alike_put _ _ _)
    rw [q1, q2, q3]
    exact Step.refl hF.inv
  · rename_i hwn
    have hw := wanted_ok hF hc hwn
    split at he
    · -- a call of a function named
      rename_i f args hins
      rw [hins] at hci
      obtain ⟨c, hop, hcal, hargs⟩ := compI_callf hci
      split at he
      · rename_i b hb
        have hok := callA_ok hE hcall hb
        have hrl := repL_of_args hO _ _ hargs
        have hrun : (execOp a.eval o).run P w = (callFunc f (c.args.toList.map a.eval).toArray).run P w := by
          simp only [execOp, hop, resolve, hcal, Sem.run_bind, Act.eval, Deferred.ofValue, Sem.run_pure, Result.andThen_ok, invoke]
          congr 2
          apply Array.ext'
          simp
        split at he
        · rename_i v hv
          cases he
          obtain ⟨q1, q2, q3, q4, q5⟩ := put_fields { s with H := b.H, nx := b.nx, fz := b.fz } ao.dst v
          rw [q2] at hf
          refine callop_ok hdst ho hw hF hrun hok hrl hf (fun u hu β' S' a' w' h1 h2 h3 => ?_) (fun u hu => by rw [hv] at hu; cases hu)
          rw [hv] at hu
          cases hu
          exact hK rfl β' S' a' w' (by rw [q1, q2, q3]; exact h1) h2 h3
        · rename_i v hv
          cases he
          refine callop_ok hdst ho hw hF hrun hok hrl hf (fun u hu => by rw [hv] at hu; cases hu) (fun u hu β' S' w' vv h1 h2 h3 => ?_)
          rw [hv] at hu
          cases hu
          exact hQ _ rfl β' S' w' vv h1 h2 h3
      · cases he
    · -- a call of a function value
      rename_i y args hins
      rw [hins] at hci
      obtain ⟨c, z, hop, hcal, hz, hargs⟩ := compI_callv hci
      split at he
      · rename_i f first caps hfv
        split at he
        · rename_i b hb
          have hok := callA_ok hE hcall hb
          have hrl := repL_of_args hO _ _ hargs
          have hfr := hO z y hz
          rw [hfv] at hfr
          simp only [rep] at hfr
          obtain ⟨la, lb, hzv, hl1, hl2⟩ := hfr
          have hrun : (execOp a.eval o).run P w = (callFunc f (la ++ c.args.toList.map a.eval ++ lb).toArray).run P w := by
            simp only [execOp, hop, resolve, hcal, Sem.run_bind, hzv, Deferred.ofValue, Sem.run_pure, Result.andThen_ok, invoke]
            congr 2
            apply Array.ext'
            simp
          have hrl' := repL_append (repL_append hl1 hrl) hl2
          split at he
          · rename_i v hv
            cases he
            obtain ⟨q1, q2, q3, q4, q5⟩ := put_fields { s with H := b.H, nx := b.nx, fz := b.fz } ao.dst v
            rw [q2] at hf
            refine callop_ok hdst ho hw hF hrun hok hrl' hf (fun u hu β' S' a' w' h1 h2 h3 => ?_) (fun u hu => by rw [hv] at hu; cases hu)
            rw [hv] at hu
            cases hu
            exact hK rfl β' S' a' w' (by rw [q1, q2, q3]; exact h1) h2 h3
          · rename_i v hv
            cases he
            refine callop_ok hdst ho hw hF hrun hok hrl' hf (fun u hu => by rw [hv] at hu; cases hu) (fun u hu β' S' w' vv h1 h2 h3 => ?_)
            rw [hv] at hu
            cases hu
            exact hQ _ rfl β' S' w' vv h1 h2 h3
        · cases he
      · cases he
    · -- panic
      rename_i y hins
      rw [hins] at hci
      obtain ⟨z, hop, hz⟩ := compI_panic hci
      split at he
      · rename_i t v hv
        cases he
        have hr := hO z y hz
        rw [hv] at hr
        have hr' := hr
        simp only [rep] at hr'
        obtain ⟨u, hzu, hu⟩ := hr'
        unfold doesOp
        simp only [ho, hw, if_true]
        unfold Oper.wp
        have hrun : (execOp a.eval o).run P w = .halt (.panic (.iface t u)) w := by
          simp only [execOp, hop, hzu, Instr.panic, Sem.run_bind, goPanic]
          rfl
        rw [hrun, Oper.upon_panic]
        exact hQ _ rfl β S w _ (Step.refl hF.inv) hF (by rw [← hzu]; exact hr)
      · cases he
    · -- defer
      rename_i y args hins
      rw [hins] at hci
      obtain ⟨c, z, hop, hcal, hz, hargs⟩ := compI_defer hci
      split at he
      · rename_i f first caps hfv
        cases he
        have hrl := repL_of_args hO _ _ hargs
        have hfr := hO z y hz
        rw [hfv] at hfr
        simp only [rep] at hfr
        obtain ⟨la, lb, hzv, hl1, hl2⟩ := hfr
        have hrun : (execOp a.eval o).run P w = .ok (.defer { target := .fn (.func f) lb.toArray, args := la.toArray ++ c.args.map a.eval }) w := by
          simp only [execOp, hop, resolve, hcal, Sem.run_bind, hzv, Deferred.ofValue, Sem.run_pure, Result.andThen_ok]
        unfold doesOp
        simp only [ho, hw, if_true]
        unfold Oper.wp
        rw [hrun, Oper.upon_defer]
        have hu : rep P β S w undefA undef := by simp only [undefA, rep]; exact ⟨[], rfl, by simp [repL]⟩
        have hF' : Fr P E B β S { s with defers := (f, first ++ args.map (s.eval E) ++ caps) :: s.defers } { a with defers := { target := .fn (.func f) lb.toArray, args := la.toArray ++ c.args.map a.eval } :: a.defers } w :=
          ⟨hF.inv, hF.glob, hF.tmp, hF.size, ⟨_, _, rfl, ⟨_, la ++ c.args.toList.map a.eval ++ lb, rfl, by apply Array.ext'; simp, repL_append (repL_append hl1 hrl) hl2⟩, hF.defs⟩⟩
        obtain ⟨q1, q2, q3, q4, q5⟩ := put_fields { s with defers := (f, first ++ args.map (s.eval E) ++ caps) :: s.defers } ao.dst undefA
        refine hK rfl β S _ w ?_ (by rw [← hdst]; exact hF'.put _ hu) ?_
        · rw [q1, q2, q3]; exact Step.refl hF.inv
        · intro t ht
          exact alike_put ({ a with defers := _ :: a.defers } : Act) o.dst undef t ht
      · cases he
    · -- recover
      cases he
    · -- the others
      rename_i hn1 hn2 hn3 hn4 hn5
      split at he
      · rename_i v H nx hev
        cases he
        obtain ⟨q1, q2, q3, q4, q5⟩ := put_fields { s with H := H, nx := nx } ao.dst v
        rw [q2] at hf
        have hg := evalI_good hci hF.inv hO (fun _ => rfl) (fun hlt => hf s.nx (Nat.le_refl _) hlt) hev
        obtain ⟨nv, w', β', S', vv, h1, h2, h3, h4⟩ := good_step hev hg
        refine value_wpOp ho hw h1 h2 ?_
        refine hK rfl β' S' _ w' ?_ ?_ (alike_put _ _ _)
        · rw [q1, q2, q3]; exact h3
        · rw [← hdst]
          exact Fr.put (hF.step h3.ext h3.inv (nx' := nx)) _ h4
      · cases he
end
end Go.Am
end
section
namespace Go.Am
open Go Go.RowKit
def ExRep (P : Program) (β : Nat → Option Nat) (S : Nat → Prop) (w : World) : Ex → Exit → Prop
  | .normal, e => e = .normal
  | .exit id, e => e = .exit id
  | .ret, e => e = .ret
  | .panic v, e => ∃ vv, e = .panic [{ v := vv, recovered := false }] ∧ rep P β S w v vv
def Left (P : Program) (E : Env) (B : Nat) (β : Nat → Option Nat) (S : Nat → Prop) (s : St) (w : World) (x : Ex) (s' : St) (e : Exit) (a' : Act) (w' : World) : Prop :=
  ∃ β' S', Step P B (domB s.H) β S s.H s.nx w β' S' s'.fz s'.H s'.nx w' ∧ Fr P E B β' S' s' a' w' ∧ ExRep P β' S' w' x e
def DrawsOK (P : Program) (E : Env) (call : CallT) : Prop :=
  ∀ (id : Nat) (ops : Array Oper) (as : List AOp) (d : Draw), ops.toList.mapM (compOp P E.gl ops) = some as → drawOf ops as = some d →
    ∀ B β S s a w x s', Fr P E B β S s a w → evalDraw E call none d as s = some (x, s') → fresh β s.nx s'.nx → s.nx ≤ s'.nx ∧ (Code.region id ops true).wp P (Left P E B β S s w x s') a w
section
variable {P : Program} {E : Env} {B : Nat} {β β' : Nat → Option Nat} {S S' : Nat → Prop} {s s' s'' : St} {a a' : Act} {w w' w'' : World} {call : CallT} {ops : Array Oper} {x : Ex} {hm : FuncId → Bool}
theorem mapM_idx {α γ : Type} {f : α → Option γ} : ∀ {l : List α} {ys : List γ}, l.mapM f = some ys → ∀ (i : Nat) (y : γ), ys[i]? = some y → ∃ a, l[i]? = some a ∧ f a = some y
  | [], ys, h, i, y, hi => by simp at h; subst h; simp at hi
  | b :: l, ys, h, i, y, hi => by
    obtain ⟨z, r, hz, hr, rfl⟩ := mapM_cons_some h
    cases i with
    | zero => simp at hi; subst hi; exact ⟨b, by simp, hz⟩
    | succ i => simp at hi; simpa using mapM_idx hr i y hi
theorem range'_cons (i m : Nat) : List.range' i (m + 1) = i :: List.range' (i + 1) m := by simp [List.range']
theorem callA_nx {f : FuncId} {args : List AV} {H : Heap} {nx : Nat} {fz : List Nat} {b : Back} (h : callA E call f args H nx fz = some b) : nx ≤ b.nx := by
  have hb : ∀ {T : List Nat} {b0 : Option Back}, hback T H nx fz b0 = some b → nx ≤ b.nx := by
    intro T b0 h
    cases b0 with
    | none => cases h
    | some b1 =>
      simp only [hback] at h
      split at h
      · rename_i hle; cases h; exact hle
      · cases h
  have pb : ∀ {T : List Nat} {r : AV → Res} {y : AV}, pback T H nx fz r y = some b → nx ≤ b.nx := by
    intro T r y h
    simp only [pback, Option.some.injEq] at h
    subst h
    exact Nat.le_refl _
  simp only [callA] at h
  repeat' split at h
  all_goals first
    | (cases h; done)
    | exact hb h
    | exact pb h
theorem evalOp_nx {pan : Option (Option AV)} {o : AOp} (h : evalOp E call pan o s = some (x, s')) : s.nx ≤ s'.nx := by
  simp only [evalOp] at h
  split at h
  · cases h
  · cases h; rw [(put_fields _ _ _).2.1]; exact Nat.le_refl _
  · split at h
    · split at h
      · rename_i b hb
        have := callA_nx hb
        split at h
        · cases h; rw [(put_fields _ _ _).2.1]; exact this
        · cases h; exact this
      · cases h
    · split at h
      · split at h
        · rename_i b hb
          have := callA_nx hb
          split at h
          · cases h; rw [(put_fields _ _ _).2.1]; exact this
          · cases h; exact this
        · cases h
      · cases h
    · split at h
      · cases h; exact Nat.le_refl _
      · cases h
    · split at h
      · cases h; rw [(put_fields _ _ _).2.1]; exact Nat.le_refl _
      · cases h
    · split at h
      · cases h; rw [(put_fields _ _ _).2.1]; exact Nat.le_refl _
      · cases h; rw [(put_fields _ _ _).2.1]; exact Nat.le_refl _
      · cases h
    · split at h
      · rename_i v H nx hev
        cases h
        rw [(put_fields _ _ _).2.1]
        have := (heaps hev).num
        show s.nx ≤ nx
        omega
      · cases h
theorem evalOps_nx {pan : Option (Option AV)} : ∀ {r : List AOp} {s : St} {x : Ex} {s' : St}, evalOps E call pan r s = some (x, s') → s.nx ≤ s'.nx
  | [], s, x, s', h => by simp only [evalOps] at h; cases h; exact Nat.le_refl _
  | b :: r, s, x, s', h => by
    simp only [evalOps] at h
    split at h
    · rename_i s2 h2
      exact Nat.le_trans (evalOp_nx h2) (evalOps_nx h)
    · exact evalOp_nx h
theorem evalOps_ok (hE : EnvOK P E) (hcall : CallsOK P E call) {Q : Exit → Act → World → Prop} : ∀ (l : List AOp) (i : Nat) (s : St) (β : Nat → Option Nat) (S : Nat → Prop) (a : Act) (w : World) (x : Ex) (s' : St),
    (∀ k ao, l[k]? = some ao → ∃ o, ops[i + k]? = some o ∧ compOp P E.gl ops o = some ao) → Fr P E B β S s a w → evalOps E call none l s = some (x, s') → fresh β s.nx s'.nx →
    (∀ e a' w', Left P E B β S s w x s' e a' w' → Q e a' w') → wpOps P ops Q (List.range' i l.length) a w
  | [], i, s, β, S, a, w, x, s', hl, hF, he, hf, hQ => by
    simp only [evalOps] at he
    cases he
    exact hQ _ _ _ ⟨β, S, Step.refl hF.inv, hF, rfl⟩
  | ao :: r, i, s, β, S, a, w, x, s', hl, hF, he, hf, hQ => by
    obtain ⟨o, ho, hc⟩ := hl 0 ao rfl
    rw [List.length_cons, range'_cons, wpOps_cons]
    simp only [evalOps] at he
    have hl' : ∀ k ao, r[k]? = some ao → ∃ o, ops[i + 1 + k]? = some o ∧ compOp P E.gl ops o = some ao := fun k b hb => by
      have := hl (k + 1) b (by simpa using hb)
      rwa [show i + (k + 1) = i + 1 + k by omega] at this
    split at he
    · rename_i s1 h1
      have hm1 := evalOp_nx h1
      have hm2 := evalOps_nx he
      refine doesOp.wpOp <| evalOp_ok hE hcall (by simpa using ho) hc hF h1 (hf.fst hm2) (fun _ β1 S1 a1 w1 k1 k2 k3 => ?_) (fun v hv => by cases hv)
      refine evalOps_ok hE hcall r (i + 1) s1 β1 S1 a1 w1 x s' hl' k2 he (fresh.next k1.grow hf) fun e a' w' hL => hQ e a' w' ?_
      obtain ⟨β2, S2, h3, h4, h5⟩ := hL
      exact ⟨β2, S2, k1.trans h3 hf, h4, h5⟩
    · rename_i hnn
      refine doesOp.wpOp <| evalOp_ok hE hcall (by simpa using ho) hc hF he hf (fun hx => absurd he (by subst hx; exact hnn s')) (fun v hv β1 S1 w1 vv k1 k2 k3 => ?_)
      subst hv
      exact hQ _ _ _ ⟨β1, S1, k1, k2, vv, rfl, k3⟩
theorem region_ok (hE : EnvOK P E) (hcall : CallsOK P E call) {id : Nat} {as : List AOp} (hc : ops.toList.mapM (compOp P E.gl ops) = some as) (hF : Fr P E B β S s a w) (he : evalOps E call none as s = some (x, s')) (hf : fresh β s.nx s'.nx) :
    (Code.region id ops false).wp P (Left P E B β S s w x s') a w := by
  refine wp_region ?_
  have hlen := mapM_len hc
  have : List.range ops.size = List.range' 0 as.length := by rw [List.range_eq_range', hlen]; simp
  rw [this]
  refine evalOps_ok hE hcall as 0 s β S a w x s' (fun k ao hk => ?_) hF he hf fun _ _ _ h => h
  obtain ⟨o, ho, hco⟩ := mapM_idx hc k ao hk
  exact ⟨o, by simpa using ho, hco⟩
theorem wp_rounds {c : Code} {Q : Exit → Act → World → Prop} (I : Nat → Act → World → Prop) (h0 : ∀ a w, ¬ I 0 a w)
    (round : ∀ n a w, I (n + 1) a w → c.wp P (Exit.then (I n) Q) a w) : ∀ n a w, I n a w → (Code.loop c).wp P Q a w := by
  intro n a w hI b k cs
  have key : ∀ n a w, I n a w → ∃ e a' w', Q e a' w' ∧ Arrives P (lone (b.at a (.code c :: .inLoop c :: k)) cs w) b k cs e a' w' := by
    intro n
    induction n with
    | zero => intro a w h; exact absurd h (h0 a w)
    | succ n ih =>
      intro a w hI
      obtain ⟨e, a₁, w₁, hq, harr⟩ := round n a w hI b (.inLoop c :: k) cs
      cases e with
      | normal =>
        obtain ⟨e₂, a₂, w₂, hq₂, harr₂⟩ := ih a₁ w₁ hq
        exact ⟨e₂, a₂, w₂, hq₂, .of_steps (Steps.trans harr (.one step_inLoop)) harr₂⟩
      | exit id => exact ⟨_, a₁, w₁, hq, .pass (x := .inLoop c) rfl (fun _ _ => .inl (by simp)) harr⟩
      | goto l => exact ⟨_, a₁, w₁, hq, .pass (x := .inLoop c) rfl (fun _ _ => .inl (by simp)) harr⟩
      | ret => exact ⟨_, a₁, w₁, hq, .pass (x := .inLoop c) rfl (fun _ _ => .inl (by simp)) harr⟩
      | panic ch => exact ⟨_, a₁, w₁, hq, .pass (x := .inLoop c) rfl (fun _ _ => .inl (by simp)) harr⟩
      | outgrown => exact ⟨_, a₁, w₁, hq, .pass (x := .inLoop c) rfl (fun _ _ => .inl (by simp)) harr⟩
  obtain ⟨e, a', w', hq, harr⟩ := key n a w hI
  exact ⟨e, a', w', hq, .of_steps (.one step_loop) harr⟩
theorem evalCode_nx {pan : Option (Option AV)} (hd : ∀ d as s x s', evalDraw E call pan d as s = some (x, s') → s.nx ≤ s'.nx) : ∀ (n : Nat) (c : ACode) (s : St) (x : Ex) (s' : St), evalCode E call pan n c s = some (x, s') → s.nx ≤ s'.nx := by
  intro n
  induction n with
  | zero => intro c s x s' h; cases c <;> simp [evalCode] at h
  | succ n ih =>
    intro c s x s' h
    cases c with
    | skip => simp only [evalCode] at h; cases h; exact Nat.le_refl _
    | region ops d =>
      cases d with
      | none => simp only [evalCode] at h; exact evalOps_nx h
      | some d => simp only [evalCode] at h; exact hd _ _ _ _ _ h
    | seq c1 c2 =>
      simp only [evalCode] at h
      split at h
      · rename_i s1 h1; exact Nat.le_trans (ih _ _ _ _ h1) (ih _ _ _ _ h)
      · exact ih _ _ _ _ h
    | cond c c1 c2 =>
      simp only [evalCode] at h
      split at h
      · exact ih _ _ _ _ h
      · cases h
    | block id c =>
      simp only [evalCode] at h
      split at h
      · rename_i i s1 h1
        split at h <;> (cases h; exact ih _ _ _ _ h1)
      · exact ih _ _ _ _ h
    | loop c =>
      simp only [evalCode] at h
      split at h
      · rename_i s1 h1; exact Nat.le_trans (ih _ _ _ _ h1) (ih _ _ _ _ h)
      · exact ih _ _ _ _ h
    | exit id => simp only [evalCode] at h; cases h; exact Nat.le_refl _
    | ret => simp only [evalCode] at h; cases h; exact Nat.le_refl _
    | fail => simp [evalCode] at h
theorem evalSteps_nx {pan : Option (Option AV)} {d : Draw} : ∀ {l : List AOp} {i : Nat} {s : St} {p : Option (Nat × AV × St)} {acc : List Rec} {p' : Option (Nat × AV × St)} {s' : St} {rs : List Rec}, evalSteps E call pan d i l s p acc = some (p', s', rs) → s.nx ≤ s'.nx
  | [], i, s, p, acc, p', s', rs, h => by simp only [evalSteps] at h; cases h; exact Nat.le_refl _
  | o :: r, i, s, p, acc, p', s', rs, h => by
    cases p with
    | none =>
      simp only [evalSteps] at h
      split at h
      · rename_i s1 h1
        split at h
        · exact Nat.le_trans (evalOp_nx h1) (evalSteps_nx h)
        · cases h
      · rename_i v s1 h1
        split at h
        · exact Nat.le_trans (evalOp_nx h1) (evalSteps_nx h)
        · cases h
      · cases h
    | some q =>
      obtain ⟨k, v, t⟩ := q
      simp only [evalSteps] at h
      split at h
      · split at h
        · rename_i s1 h1
          split at h
          · exact Nat.le_trans (evalOp_nx h1) (evalSteps_nx h)
          · cases h
        · cases h
      · exact evalSteps_nx h
theorem evalDraw_nx {pan : Option (Option AV)} (d : Draw) (as : List AOp) (s : St) (x : Ex) (s' : St) (h : evalDraw E call pan d as s = some (x, s')) : s.nx ≤ s'.nx := by
  simp only [evalDraw] at h
  split at h
  · rename_i p s1 rs h1
    have := evalSteps_nx h1
    split at h
    · split at h
      · cases h; exact this
      · cases h; exact this
    · cases h
  · cases h
theorem evalCode_ok (hE : EnvOK P E) (hcall : CallsOK P E call) (hD : DrawsOK P E call) : ∀ (n : Nat) (c : Code) (ac : ACode) (B : Nat) (β : Nat → Option Nat) (S : Nat → Prop) (s : St) (a : Act) (w : World) (x : Ex) (s' : St),
    compCode P E.gl c = some ac → Fr P E B β S s a w → evalCode E call none n ac s = some (x, s') → fresh β s.nx s'.nx → c.wp P (Left P E B β S s w x s') a w := by
  intro n
  induction n using Nat.strongRecOn with
  | _ n0 ihs =>
  cases n0 with
  | zero => intro c ac B β S s a w x s' hc hF h; cases ac <;> simp [evalCode] at h
  | succ n =>
    have ih := ihs n (Nat.lt_succ_self n)
    intro c ac B β S s a w x s' hc hF h hf
    cases c with
    | skip =>
      simp only [compCode] at hc
      cases hc
      simp only [evalCode] at h
      cases h
      exact wp_skip ⟨β, S, Step.refl hF.inv, hF, rfl⟩
    | region id ops draw =>
      simp only [compCode] at hc
      split at hc
      · cases hc
      · rename_i as has
        split at hc
        · rename_i hdr
          obtain ⟨d, hd, rfl⟩ := Option.map_eq_some_iff.1 hc
          simp only [evalCode] at h
          subst hdr
          exact (hD id ops as d has hd B β S s a w x s' hF h hf).2
        · rename_i hdr
          cases hc
          simp only [evalCode] at h
          have : draw = false := by simpa using hdr
          subst this
          exact region_ok hE hcall has hF h hf
    | seq c1 c2 =>
      simp only [compCode] at hc
      split at hc
      · rename_i a1 a2 h1 h2
        cases hc
        simp only [evalCode] at h
        refine wp_seq ?_
        split at h
        · rename_i s1 k1
          have hm1 := evalCode_nx evalDraw_nx _ _ _ _ _ k1
          have hm2 := evalCode_nx evalDraw_nx _ _ _ _ _ h
          refine wp_mono (ih c1 a1 B β S s a w _ s1 h1 hF k1 (hf.fst hm2)) ?_
          rintro e a1' w1 ⟨β1, S1, q1, q2, q3⟩
          simp only [ExRep] at q3
          subst q3
          refine wp_mono (ih c2 a2 B β1 S1 s1 a1' w1 x s' h2 q2 h (fresh.next q1.grow hf)) ?_
          rintro e a2' w2 ⟨β2, S2, q4, q5, q6⟩
          exact ⟨β2, S2, q1.trans q4 hf, q5, q6⟩
        · rename_i hnn
          refine wp_mono (ih c1 a1 B β S s a w x s' h1 hF h hf) ?_
          intro e a1' w1 hL
          cases e with
          | normal =>
            exfalso
            obtain ⟨β1, S1, q1, q2, q3⟩ := hL
            cases x with
            | normal => exact hnn s' h
            | exit id => cases q3
            | ret => cases q3
            | panic v => obtain ⟨vv, q4, _⟩ := q3; cases q4
          | exit id => exact hL
          | goto l => exact hL
          | ret => exact hL
          | panic ch => exact hL
          | outgrown => exact hL
      · cases hc
    | cond cc c1 c2 =>
      simp only [compCode] at hc
      split at hc
      · rename_i y a1 a2 hy h1 h2
        cases hc
        simp only [evalCode] at h
        split at h
        · rename_i t ht
          have hr := hF.opnds cc y hy
          rw [ht] at hr
          simp only [rep] at hr
          refine wp_cond hr ?_
          cases t with
          | true => exact ih c1 a1 B β S s a w x s' h1 hF h hf
          | false => exact ih c2 a2 B β S s a w x s' h2 hF h hf
        · cases h
      · cases hc
    | block id c =>
      simp only [compCode] at hc
      obtain ⟨a1, h1, rfl⟩ := Option.map_eq_some_iff.1 hc
      simp only [evalCode] at h
      refine wp_block ?_
      split at h
      · rename_i i s1 k1
        split at h
        · rename_i hid
          subst hid
          cases h
          refine wp_mono (ih c a1 B β S s a w _ _ h1 hF k1 hf) ?_
          rintro e a1' w1 ⟨β1, S1, q1, q2, q3⟩
          simp only [ExRep] at q3
          subst q3
          simp only [Exit.inBlock, if_true]
          exact ⟨β1, S1, q1, q2, rfl⟩
        · rename_i hid
          cases h
          refine wp_mono (ih c a1 B β S s a w _ _ h1 hF k1 hf) ?_
          rintro e a1' w1 ⟨β1, S1, q1, q2, q3⟩
          simp only [ExRep] at q3
          subst q3
          simp only [Exit.inBlock, if_neg hid]
          exact ⟨β1, S1, q1, q2, rfl⟩
      · rename_i hnn
        refine wp_mono (ih c a1 B β S s a w x s' h1 hF h hf) ?_
        intro e a1' w1 hL
        cases e with
        | exit i =>
          exfalso
          obtain ⟨β1, S1, q1, q2, q3⟩ := hL
          cases x with
          | normal => cases q3
          | exit id => exact hnn id s' h
          | ret => cases q3
          | panic v => obtain ⟨vv, q4, _⟩ := q3; cases q4
        | normal => exact hL
        | goto l => exact hL
        | ret => exact hL
        | panic ch => exact hL
        | outgrown => exact hL
    | loop c =>
      simp only [compCode] at hc
      obtain ⟨a1, h1, rfl⟩ := Option.map_eq_some_iff.1 hc
      refine wp_rounds (fun m a1' w1 => m ≤ n + 1 ∧ ∃ β1 S1 s1, Step P B (domB s.H) β S s.H s.nx w β1 S1 s1.fz s1.H s1.nx w1 ∧ Fr P E B β1 S1 s1 a1' w1 ∧ evalCode E call none m (.loop a1) s1 = some (x, s')) ?_ ?_ (n + 1) a w ⟨Nat.le_refl _, β, S, s, Step.refl hF.inv, hF, h⟩
      · rintro a1' w1 ⟨_, β1, S1, s1, _, _, hev⟩
        simp [evalCode] at hev
      · rintro m a1' w1 ⟨hm, β1, S1, s1, q1, q2, hev⟩
        simp only [evalCode] at hev
        have body : ∀ x1 s2, evalCode E call none m a1 s1 = some (x1, s2) → fresh β1 s1.nx s2.nx → c.wp P (Left P E B β1 S1 s1 w1 x1 s2) a1' w1 := by
          intro x1 s2 k1 k2
          exact ihs m (by omega) c a1 B β1 S1 s1 a1' w1 x1 s2 h1 q2 k1 k2
        split at hev
        · rename_i s2 k1
          have hm2 := evalCode_nx evalDraw_nx _ _ _ _ _ hev
          have hf1 : fresh β1 s1.nx s'.nx := fresh.next q1.grow hf
          refine wp_mono (body _ s2 k1 (hf1.fst hm2)) ?_
          rintro e a2 w2 ⟨β2, S2, q3, q4, q5⟩
          simp only [ExRep] at q5
          subst q5
          exact ⟨by omega, β2, S2, s2, q1.trans q3 (hf.fst hm2), q4, hev⟩
        · rename_i hnn
          refine wp_mono (body x s' hev (fresh.next q1.grow hf)) ?_
          rintro e a2 w2 ⟨β2, S2, q3, q4, q5⟩
          have hL : Left P E B β S s w x s' e a2 w2 := ⟨β2, S2, q1.trans q3 hf, q4, q5⟩
          cases e with
          | normal =>
            exfalso
            cases x with
            | normal => exact hnn s' hev
            | exit id => cases q5
            | ret => cases q5
            | panic v => obtain ⟨vv, q6, _⟩ := q5; cases q6
          | exit id => exact hL
          | goto l => exact hL
          | ret => exact hL
          | panic ch => exact hL
          | outgrown => exact hL
    | exit id =>
      simp only [compCode] at hc
      cases hc
      simp only [evalCode] at h
      cases h
      exact wp_exit ⟨β, S, Step.refl hF.inv, hF, rfl⟩
    | ret =>
      simp only [compCode] at hc
      cases hc
      simp only [evalCode] at h
      cases h
      exact wp_ret ⟨β, S, Step.refl hF.inv, hF, rfl⟩
    | refuse r =>
      simp only [compCode] at hc
      cases hc
      simp [evalCode] at h
    | _ => simp [compCode] at hc
end
end Go.Am
end
section
namespace Go.Am
open Go Go.RowKit
def CodeOK (P : Program) (E : Env) (hm : FuncId → Bool) : Prop := ∀ f af, E.code f = some af → ∃ fn, P.funcs[f]? = some fn ∧ compFn P E.gl hm f fn = some af
def ModeRep (P : Program) (β : Nat → Option Nat) (S : Nat → Prop) (w : World) : Option AV → FrameMode → Prop
  | none, u => u = .returning
  | some v, u => ∃ vv, u = .panicking [{ v := vv, recovered := false }] ∧ rep P β S w v vv
def DefersOK (P : Program) (E : Env) (call : CallT) : Prop := ∀ f args H nx fz m v H' nx' fz' r, call f args H nx fz (some m) = some ⟨.ret v, H', nx', fz', r⟩ →
  (∃ fn, P.funcs[f]? = some fn ∧ fn.body.isSome = true ∧ (fn.name == "runtime.NumGoroutine") = false) ∧
  ∀ B β S w (vs : List Value) u, Inv P B β S fz H w → Glob E S w → repL P β S w args vs → fresh β nx nx' → ModeRep P β S w m u →
    CallsD P f vs.toArray u w fun e u' w' => ∃ β' S', Step P B (domB H) β S H nx w β' S' fz' H' nx' w' ∧ (∃ vv, e = .returned vv) ∧ if r then settle u' = .returning else ModeRep P β' S' w' m u'
section
variable {P : Program} {E : Env} {B : Nat} {β β' : Nat → Option Nat} {S S' : Nat → Prop} {s s' s'' : St} {a a' : Act} {w w' w'' : World} {call : CallT} {ops : Array Oper} {x : Ex} {hm : FuncId → Bool} {fz : List Nat} {H : Heap} {nx : Nat}
theorem compFn_parts {f : FuncId} {fn : Func} {af : AFn} (h : compFn P E.gl hm f fn = some af) :
    (fn.name == "runtime.NumGoroutine") = false ∧ ∃ c, fn.body = some c ∧ fn.results.toList.mapM (compRes P) = some af.res ∧ compCode P E.gl c = some af.body ∧ af.ntmps = fn.ntmps ∧ af.heap = hm f := by
  unfold compFn at h
  split at h
  · cases h
  · rename_i hn
    split at h
    · cases h
    · rename_i c hb
      split at h
      · rename_i rs ac h1 h2
        cases h
        exact ⟨by simpa using hn, c, hb, h1, h2, rfl, rfl⟩
      · cases h
theorem callFunc_enter {f : FuncId} {fn : Func} (hf : P.funcs[f]? = some fn) (hn : (fn.name == "runtime.NumGoroutine") = false) (hb : fn.body.isSome = true) (args : Array Value) (w : World) : (callFunc f args).run P w = .ok (.enter f args) w := by
  have hb' : ¬ fn.body = none := by
    intro h
    rw [h] at hb; cases hb
  have hn' : ¬ fn.name = "runtime.NumGoroutine" := by simpa using hn
  simp [callFunc, hf, hn', hb']
theorem undef_rep : rep P β S w undefA undef := by simp only [undefA, rep]; exact ⟨[], rfl, by simp [repL]⟩
theorem getT_rep : ∀ {xs : List AV} {l : List Value}, repL P β S w xs l → ∀ t, rep P β S w (getT xs t) ((l.toArray)[t]?.getD undef)
  | [], l, h, t => by simp only [repL] at h; subst h; simpa [getT] using undef_rep
  | x :: xs, l, h, t => by
    simp only [repL] at h
    obtain ⟨v, r, rfl, hx, hr⟩ := h
    cases t with
    | zero => simpa [getT] using hx
    | succ t => simpa [getT] using getT_rep hr t
theorem repL_undef (n : Nat) : repL P β S w (List.replicate n undefA) (List.replicate n undef) := by
  induction n with
  | zero => simp [repL]
  | succ n ih => simp only [List.replicate_succ, repL]; exact ⟨_, _, rfl, undef_rep, ih⟩
theorem Fr.enter {af : AFn} {fn : Func} {args : List AV} {vs : List Value} (hn : af.ntmps = fn.ntmps) (hI : Inv P B β S fz H w) (hG : Glob E S w) (hr : repL P β S w args vs) :
    Fr P E B β S ⟨enterA af args, H, nx, fz, [], false⟩ { tmps := vs.toArray ++ Array.replicate (fn.ntmps - vs.toArray.size) undef, defers := [] } w := by
  have hlen := repL_length hr
  have hR := repL_append hr (repL_undef (P := P) (β := β) (S := S) (w := w) (fn.ntmps - vs.length))
  refine ⟨hI, hG, fun t => ?_, ?_, rfl⟩
  · have := getT_rep hR t
    show rep P β S w (getT (args ++ List.replicate (af.ntmps - args.length) undefA) t) _
    rw [hn, hlen]
    simp only [Act.eval, Array.getD_eq_getD_getElem?]
    have he : (vs.toArray ++ Array.replicate (fn.ntmps - vs.toArray.size) undef) = (vs ++ List.replicate (fn.ntmps - vs.length) undef).toArray := by
      apply Array.ext'
      simp
    rw [he]
    exact this
  · simp [enterA, hn, hlen]
theorem res_ok (hI : Inv P B β S fz H w) {tmps : List AV} {tm : Array Value} (ht : ∀ t, rep P β S w (getT tmps t) (tm.getD t undef)) {r : ResultVar} {ar : ARes} (hc : compRes P r = some ar) {v : AV} (h : resA tmps H ar = some v) :
    ∃ vv, ((match r with | .tmp t => pure (tm.getD t undef) | .cell a t => do loadVar t (← asAddr (tm.getD a undef)) : Sem Value)).run P w = .ok vv w ∧ rep P β S w v vv := by
  cases r with
  | tmp t =>
    simp only [compRes] at hc
    cases hc
    simp only [resA] at h
    cases h
    exact ⟨_, rfl, ht t⟩
  | cell b t =>
    simp only [compRes] at hc
    split at hc
    · rename_i ti d hi hd
      split at hc
      · rename_i hag
        cases hc
        simp only [resA] at h
        split at h
        · rename_i cs hcs
          obtain ⟨c, off, hv, hcell⟩ := cellsAt_rep hI (ht b) hcs
          obtain ⟨l, k1, k2, k3⟩ := read_list hcell
          obtain ⟨h2, h3⟩ := partA_rep h k1
          simp only [Nat.zero_add, List.drop_zero] at h2 h3
          have hrun := run_loadV (w := w) hd hi c off (l.take ti.size) (by simp; omega) hag (fun j u hu => by
            rw [List.getElem?_take] at hu
            split at hu
            · exact k3 j u hu
            · cases hu)
          refine ⟨if isAggD d then .agg (l.take ti.size).toArray else (l.take ti.size).getD 0 undef, ?_, ?_⟩
          · show Sem.run P (do loadVar t (← asAddr (tm.getD b undef))) w = _
            rw [hv]
            simpa [asAddr, Instr.loadAt, Instr.sureAddr] using hrun
          · cases hb : isAggD d with
            | true => simp only [hb, if_true] at h3 ⊢; exact h3
            | false =>
              simp only [hb, Bool.false_eq_true, if_false] at h3 ⊢
              obtain ⟨u, h4, h5⟩ := h3
              have hs : ti.size = 1 := by
                rcases hag with hag | hag
                · rw [hb] at hag; cases hag
                · exact hag
              have : (l.take ti.size).getD 0 undef = u := by
                rw [hs, List.getD_eq_getElem?_getD, List.getElem?_take]
                simp [h4]
              rw [this]; exact h5
        · cases h
      · cases hc
    · cases hc
theorem resL_ok (hI : Inv P B β S fz H w) {tmps : List AV} {tm : Array Value} (ht : ∀ t, rep P β S w (getT tmps t) (tm.getD t undef)) : ∀ {rs : List ResultVar} {ars : List ARes} {vs : List AV}, rs.mapM (compRes P) = some ars → ars.mapM (resA tmps H) = some vs →
    ∃ vvs : List Value, (rs.mapM (fun | .tmp t => pure (tm.getD t undef) | .cell a t => do loadVar t (← asAddr (tm.getD a undef)) : ResultVar → Sem Value)).run P w = .ok vvs w ∧ repL P β S w vs vvs
  | [], ars, vs, h1, h2 => by
    simp at h1; subst h1; simp at h2; subst h2
    exact ⟨[], by simp, by simp [repL]⟩
  | r :: rs, ars, vs, h1, h2 => by
    obtain ⟨ar, ars', k1, k2, rfl⟩ := mapM_cons_some h1
    obtain ⟨v, vs', k3, k4, rfl⟩ := mapM_cons_some h2
    obtain ⟨vv, q1, q2⟩ := res_ok hI ht k1 k3
    obtain ⟨vvs, q3, q4⟩ := resL_ok hI ht k2 k4
    refine ⟨vv :: vvs, ?_, ?_⟩
    · rw [List.mapM_cons]
      simp only [Sem.run_bind]
      rw [q1]
      simp only [Result.andThen_ok, Sem.run_bind, q3, Sem.run_pure]
    · simp only [repL]; exact ⟨_, _, rfl, q2, q4⟩
theorem results_ok (hI : Inv P B β S fz H w) {tmps : List AV} {tm : Array Value} (ht : ∀ t, rep P β S w (getT tmps t) (tm.getD t undef)) {fn : Func} {ars : List ARes} (hc : fn.results.toList.mapM (compRes P) = some ars) {v : AV} (h : resultsA ars tmps H = some v) :
    ∃ vv, (results fn tm).run P w = .ok vv w ∧ rep P β S w v vv := by
  have hm : ∀ vvs : List Value, (fn.results.toList.mapM (fun | .tmp t => pure (tm.getD t undef) | .cell a t => do loadVar t (← asAddr (tm.getD a undef)) : ResultVar → Sem Value)).run P w = .ok vvs w →
      (results fn tm).run P w = .ok (if h : vvs.toArray.size = 1 then vvs.toArray[0] else .tuple vvs.toArray) w := by
    intro vvs hv
    unfold results
    rw [Sem.run_bind, Array.mapM_eq_mapM_toList]
    simp only [Sem.run_map, Sem.run_pure]
    exact congrArg (fun r : Result (List Value) => (r.andThen (fun a w' => Result.ok a.toArray w')).andThen (fun a w' => Result.ok (if h : a.size = 1 then a[0] else Value.tuple a) w')) hv
  unfold resultsA at h
  split at h
  · rename_i r
    have h' : [r].mapM (resA tmps H) = some [v] := by simp [h]
    obtain ⟨vvs, q1, q2⟩ := resL_ok hI ht hc h'
    simp only [repL] at q2
    obtain ⟨vv, l, rfl, q3, rfl⟩ := q2
    exact ⟨vv, by rw [hm _ q1]; simp, q3⟩
  · rename_i hne
    obtain ⟨vs, h', rfl⟩ := Option.map_eq_some_iff.1 h
    obtain ⟨vvs, q1, q2⟩ := resL_ok hI ht hc h'
    refine ⟨.tuple vvs.toArray, ?_, ?_⟩
    · rw [hm _ q1, dif_neg]
      intro h1
      have l1 := repL_length q2
      have l2 := mapM_len h'
      match ars, l2 with
      | [], l2 => rw [List.length_nil] at l2; simp only [List.size_toArray] at h1; omega
      | [r], _ => exact hne r rfl
      | _ :: _ :: _, l2 => rw [List.length_cons, List.length_cons] at l2; simp only [List.size_toArray] at h1; omega
    · simp only [rep]; exact ⟨vvs, rfl, q2⟩
theorem Step.glob {fz' : List Nat} {H' : Heap} {nx' : Nat} (hG : Glob E S w) (h : Step P B (domB H) β S H nx w β' S' fz' H' nx' w') : Glob E S' w' := hG.ext h.ext.st h.ext.keep
theorem leave_ok (hD : DefersOK P E call) {fn : Func} {ars : List ARes} (hc : fn.results.toList.mapM (compRes P) = some ars) {tmps : List AV} {tm : Array Value} {b : Back} :
    ∀ (ds : List (FuncId × List AV)) (m : Option AV) (H : Heap) (nx : Nat) (fz : List Nat), leaveA call ars tmps ds m H nx fz = some b →
    ∀ (β : Nat → Option Nat) (S : Nat → Prop) (w : World) (dm : List Deferred) (u : FrameMode) (R : Ending → World → Prop), Inv P B β S fz H w → Glob E S w → (∀ t, rep P β S w (getT tmps t) (tm.getD t undef)) → DefsRep P β S w ds dm → ModeRep P β S w m u → fresh β nx b.nx →
      (∀ β' S' e w', Step P B (domB H) β S H nx w β' S' b.fz b.H b.nx w' → EndRep P β' S' w' b.res e → R e w') → nx ≤ b.nx ∧ Leaves P fn tm R dm u w
  | [], none, H, nx, fz, h => by
    intro β S w dm u R hI hG ht hd hm hf hR
    simp only [leaveA] at h
    obtain ⟨v, hv, rfl⟩ := Option.map_eq_some_iff.1 h
    simp only [DefsRep] at hd
    subst hd
    simp only [ModeRep] at hm
    subst hm
    obtain ⟨vv, q1, q2⟩ := results_ok hI ht hc hv
    exact ⟨Nat.le_refl _, vv, q1, hR β S _ w (Step.refl hI) ⟨vv, rfl, q2⟩⟩
  | [], some v, H, nx, fz, h => by
    intro β S w dm u R hI hG ht hd hm hf hR
    simp only [leaveA] at h
    cases h
    simp only [DefsRep] at hd
    subst hd
    obtain ⟨vv, rfl, q2⟩ := hm
    exact ⟨Nat.le_refl _, hR β S _ w (Step.refl hI) ⟨vv, rfl, q2⟩⟩
  | (f, args) :: ds, m, H, nx, fz, h => by
    intro β S w dm u R hI hG ht hd hm hf hR
    simp only [leaveA] at h
    split at h
    · rename_i v H1 nx1 fz1 r hcall
      split at h
      · rename_i hle
        obtain ⟨d, dm', rfl, ⟨cap, vs, k1, k2, k3⟩, k4⟩ := hd
        obtain ⟨⟨fn', g1, g2, g3⟩, g4⟩ := hD _ _ _ _ _ _ _ _ _ _ _ hcall
        have hnx : nx1 ≤ b.nx := by
          have : ∀ (ds : List (FuncId × List AV)) (m : Option AV) (H : Heap) (nx : Nat) (fz : List Nat), leaveA call ars tmps ds m H nx fz = some b → nx ≤ b.nx := by
            intro ds
            induction ds with
            | nil =>
              intro m H nx fz h
              cases m with
              | none => simp only [leaveA] at h; obtain ⟨_, _, rfl⟩ := Option.map_eq_some_iff.1 h; exact Nat.le_refl _
              | some v => simp only [leaveA] at h; cases h; exact Nat.le_refl _
            | cons d ds ih =>
              obtain ⟨f, args⟩ := d
              intro m H nx fz h
              simp only [leaveA] at h
              split at h
              · split at h
                · rename_i hle; exact Nat.le_trans hle (ih _ _ _ _ h)
                · cases h
              · cases h
          exact this _ _ _ _ _ h
        refine ⟨by omega, ?_⟩
        have hcd := g4 B β S w vs u hI hG k3 (hf.fst hnx) hm
        obtain ⟨dt, da⟩ := d
        simp only at k1 k2
        subst k1
        refine leaves_cons ?_ (by
          show (callFunc f (da ++ cap)).run P w = _
          rw [k2]
          exact callFunc_enter g1 g3 g2 _ _) (hcd.mono ?_)
        · cases m with
          | none => simp only [ModeRep] at hm; subst hm; exact fun h => by cases h
          | some v => obtain ⟨vv, rfl, _⟩ := hm; exact fun h => by cases h
        · rintro e u' w' ⟨β1, S1, q1, ⟨vv, rfl⟩, q2⟩
          have hm' : ModeRep P β1 S1 w' (if r = true then none else m) (settle u') := by
            cases r with
            | true => simp only [if_true] at q2 ⊢; exact q2
            | false =>
              simp only [Bool.false_eq_true, if_false] at q2 ⊢
              cases m with
              | none => simp only [ModeRep] at q2 ⊢; subst q2; rfl
              | some v => obtain ⟨vv', rfl, hv⟩ := q2; exact ⟨vv', rfl, hv⟩
          exact (leave_ok hD hc ds _ H1 nx1 fz1 h β1 S1 w' dm' (settle u') R q1.inv (q1.glob hG) (fun t => rep_ext q1.ext _ _ (ht t)) (defs_ext q1.ext _ _ k4) hm' (fresh.next q1.grow hf) fun β' S' e w'' q3 q4 => hR β' S' e w'' (q1.trans q3 hf) q4).2
      · cases h
    · cases h
end
end Go.Am
end
section
namespace Go.Am
open Go Go.RowKit
def ModeNow (P : Program) (β : Nat → Option Nat) (S : Nat → Prop) (w : World) (m : Option AV) (recd : Bool) (u : FrameMode) : Prop :=
  if recd then ∃ vv, u = .panicking [{ v := vv, recovered := true }] else ModeRep P β S w m u
section
variable {P : Program} {E : Env} {B : Nat} {β β' : Nat → Option Nat} {S S' : Nat → Prop} {s s' s'' : St} {a a' : Act} {w w' w'' : World} {call : CallT} {ops : Array Oper} {x : Ex} {hm : FuncId → Bool} {fz : List Nat} {H : Heap} {nx : Nat}
theorem ModeNow.ext {m : Option AV} {r : Bool} {u : FrameMode} (h : ModeNow P β S w m r u) (hx : Ext β S w β' S' w') : ModeNow P β' S' w' m r u := by
  unfold ModeNow at *
  cases r with
  | true => exact h
  | false =>
    simp only [Bool.false_eq_true, if_false] at *
    cases m with
    | none => exact h
    | some v => obtain ⟨vv, h1, h2⟩ := h; exact ⟨vv, h1, rep_ext hx _ _ h2⟩
theorem evalOp_pan {o : AOp} (hn : o.ins ≠ .recover) (p q : Option (Option AV)) : evalOp E call p o s = evalOp E call q o s := by
  unfold evalOp
  split
  · rfl
  · rfl
  · cases hi : o.ins <;> first | rfl | exact absurd hi hn
theorem evalOp_recd {p : Option (Option AV)} {o : AOp} (hn : o.ins ≠ .recover) (h : evalOp E call p o s = some (x, s')) : s'.recd = s.recd := by
  rw [evalOp_pan hn p none] at h
  simp only [evalOp] at h
  split at h
  · cases h
  · cases h; exact (put_fields _ _ _).2.2.2.2
  · split at h
    · split at h
      · split at h
        · cases h; exact (put_fields _ _ _).2.2.2.2
        · cases h; rfl
      · cases h
    · split at h
      · split at h
        · split at h
          · cases h; exact (put_fields _ _ _).2.2.2.2
          · cases h; rfl
        · cases h
      · cases h
    · split at h
      · cases h; rfl
      · cases h
    · split at h
      · cases h; exact (put_fields _ _ _).2.2.2.2
      · cases h
    · cases h
    · split at h
      · cases h; exact (put_fields _ _ _).2.2.2.2
      · cases h
theorem evalOpsS_ok (hE : EnvOK P E) (hcall : CallsOK P E call) {Q : Exit → Act → List Frame → World → Prop} {c₀ : Frame} {cs0 : List Frame} {m : Option AV} : ∀ (l : List AOp) (i : Nat) (s : St) (β : Nat → Option Nat) (S : Nat → Prop) (a : Act) (w : World) (u : FrameMode) (s' : St),
    (∀ k ao, l[k]? = some ao → ∃ o, ops[i + k]? = some o ∧ compOp P E.gl ops o = some ao) → Fr P E B β S s a w → ModeNow P β S w m s.recd u → evalOps E call (some m) l s = some (.normal, s') → fresh β s.nx s'.nx →
    (∀ β' S' a' w' u', Step P B (domB s.H) β S s.H s.nx w β' S' s'.fz s'.H s'.nx w' → Fr P E B β' S' s' a' w' → ModeNow P β' S' w' m s'.recd u' → Q .normal a' ({ c₀ with mode := u' } :: cs0) w') →
    wpOpsS P ops Q (List.range' i l.length) a ({ c₀ with mode := u } :: cs0) w
  | [], i, s, β, S, a, w, u, s', hl, hF, hM, he, hf, hQ => by
    simp only [evalOps] at he
    cases he
    exact hQ _ _ _ _ _ (Step.refl hF.inv) hF hM
  | ao :: r, i, s, β, S, a, w, u, s', hl, hF, hM, he, hf, hQ => by
    obtain ⟨o, ho, hc⟩ := hl 0 ao rfl
    rw [Nat.add_zero] at ho
    rw [List.length_cons, range'_cons]
    simp only [evalOps] at he
    have hl' : ∀ k ao, r[k]? = some ao → ∃ o, ops[i + 1 + k]? = some o ∧ compOp P E.gl ops o = some ao := fun k b hb => by
      have := hl (k + 1) b (by simpa using hb)
      rwa [show i + (k + 1) = i + 1 + k by omega] at this
    split at he
    · rename_i s1 h1
      have hm1 := evalOp_nx h1
      have hm2 := evalOps_nx he
      have rest : ∀ β1 S1 a1 w1 u1, Step P B (domB s.H) β S s.H s.nx w β1 S1 s1.fz s1.H s1.nx w1 → Fr P E B β1 S1 s1 a1 w1 → ModeNow P β1 S1 w1 m s1.recd u1 → wpOpsS P ops Q (List.range' (i + 1) r.length) a1 ({ c₀ with mode := u1 } :: cs0) w1 := by
        intro β1 S1 a1 w1 u1 k1 k2 k3
        exact evalOpsS_ok hE hcall r (i + 1) s1 β1 S1 a1 w1 u1 s' hl' k2 k3 he (fresh.next k1.grow hf) fun β' S' a' w' u' h2 h3 h4 => hQ β' S' a' w' u' (k1.trans h2 hf) h3 h4
      by_cases hrec : ao.ins = .recover
      · -- recover
        obtain ⟨hci, hdst⟩ := compOp_parts hc
        rw [hrec] at hci
        obtain ⟨c, hop, hcal⟩ := compI_recover hci
        have hrun : (execOp a.eval o).run P w = .ok .recover w := by
          simp only [execOp, hop, resolve, hcal, Sem.run_bind, Sem.run_pure, Result.andThen_ok, invoke]
          rfl
        simp only [evalOp, hrec] at h1
        simp only [wpOpsS, ho]
        split at h1
        · cases h1
        · rename_i hwn
          have hw := wanted_ok hF hc hwn
          simp only [hw, Bool.false_eq_true, if_false]
          cases h1
          obtain ⟨q1, q2, q3, q4, q5⟩ := put_fields s ao.dst undefA
          refine rest β S _ w u (by rw [q1, q2, q3]; exact Step.refl hF.inv) (by rw [← hdst]; exact hF.put _ undef_rep) (by rw [q5]; exact hM)
        · rename_i hwn
          have hw := wanted_ok hF hc hwn
          simp only [hw, if_true, hrun]
          cases hr : s.recd with
          | true =>
            rw [hr] at h1 hM
            simp only [ModeNow, if_true] at hM
            obtain ⟨vv, rfl⟩ := hM
            have hnone : recoverD ({ c₀ with mode := .panicking [{ v := vv, recovered := true }] } :: cs0) = none := rfl
            rw [hnone]
            simp only
            have h1' : some (Ex.normal, s.put ao.dst .nili) = some (Ex.normal, s1) := by
              cases m <;> exact h1
            cases h1'
            obtain ⟨q1, q2, q3, q4, q5⟩ := put_fields s ao.dst .nili
            refine rest β S _ w _ (by rw [q1, q2, q3]; exact Step.refl hF.inv) (by rw [← hdst]; exact hF.put _ (by simp only [rep])) ?_
            rw [q5, hr]
            exact ⟨vv, rfl⟩
          | false =>
            rw [hr] at h1 hM
            simp only [ModeNow, Bool.false_eq_true, if_false] at hM
            cases m with
            | none =>
              simp only [ModeRep] at hM
              subst hM
              have hnone : recoverD ({ c₀ with mode := .returning } :: cs0) = none := rfl
              rw [hnone]
              simp only
              cases h1
              obtain ⟨q1, q2, q3, q4, q5⟩ := put_fields s ao.dst .nili
              refine rest β S _ w _ (by rw [q1, q2, q3]; exact Step.refl hF.inv) (by rw [← hdst]; exact hF.put _ (by simp only [rep])) ?_
              rw [q5, hr]
              rfl
            | some v =>
              obtain ⟨vv, rfl, hv⟩ := hM
              have hsome : recoverD ({ c₀ with mode := .panicking [{ v := vv, recovered := false }] } :: cs0) = some (vv, { c₀ with mode := .panicking [{ v := vv, recovered := true }] } :: cs0) := rfl
              rw [hsome]
              simp only
              cases h1
              obtain ⟨q1, q2, q3, q4, q5⟩ := put_fields { s with recd := true } ao.dst v
              refine rest β S _ w _ (by rw [q1, q2, q3]; exact Step.refl hF.inv) ?_ ?_
              · rw [← hdst]
                exact Fr.put (s := { s with recd := true }) ⟨hF.inv, hF.glob, hF.tmp, hF.size, hF.defs⟩ _ hv
              · rw [q5]
                exact ⟨vv, rfl⟩
      · -- all others
        have h1' := h1
        rw [evalOp_pan hrec _ none] at h1'
        have hrecd := evalOp_recd hrec h1
        have hdo := evalOp_ok hE hcall ho hc hF h1' (hf.fst hm2) (K := fun a1 w1 => wpOpsS P ops Q (List.range' (i + 1) r.length) a1 ({ c₀ with mode := u } :: cs0) w1) (Q := fun e a' w' => Q e a' ({ c₀ with mode := u } :: cs0) w')
          (fun _ β1 S1 a1 w1 k1 k2 k3 => rest β1 S1 a1 w1 u k1 k2 (by rw [hrecd]; exact hM.ext k1.ext)) (fun v hv => by cases hv)
        simp only [doesOp, ho] at hdo
        simp only [wpOpsS, ho]
        split
        · rename_i hw
          simp only [hw, if_true, Oper.wp] at hdo
          split
          · rename_i w1 hrun
            rw [hrun] at hdo
            exact hdo.elim
          · exact hdo
        · rename_i hw
          simp only [hw] at hdo
          exact hdo
    · rename_i hnn
      exact absurd he (hnn s')
theorem code_of_env {f : FuncId} {af : AFn} (hC : CodeOK P E hm) (h : E.code f = some af) : ∃ fn, P.funcs[f]? = some fn ∧ compFn P E.gl hm f fn = some af := hC f af h
theorem evalFn_ok (hE : EnvOK P E) (hC : CodeOK P E hm) (hDr : ∀ call, CallsOK P E call → DrawsOK P E call) : ∀ k, CallsOK P E (evalFn E k) ∧ DefersOK P E (evalFn E k) := by
  intro k
  induction k with
  | zero =>
    refine ⟨fun f args H nx fz b h => ?_, fun f args H nx fz m v H' nx' fz' r h => ?_⟩
    · simp [evalFn] at h
    · simp [evalFn] at h
  | succ k ih =>
    obtain ⟨ih1, ih2⟩ := ih
    have hDk := hDr _ ih1
    refine ⟨fun f args H nx fz b h => ?_, fun f args H nx fz m v H' nx' fz' r h => ?_⟩
    · -- a call
      simp only [evalFn] at h
      split at h
      · cases h
      · rename_i af haf
        obtain ⟨fn, hfn, hcf⟩ := hC f af haf
        obtain ⟨hname, c, hb, hres, hcode, hnt, _⟩ := compFn_parts hcf
        intro B β S w vs hI hG hr hf
        refine .inl ⟨callFunc_enter hfn hname (by rw [hb]; rfl) _ _, calls_of_wp_defers hfn hb ?_⟩
        have hF := Fr.enter (nx := nx) (B := B) (af := af) (fn := fn) hnt hI hG hr
        have hev : ∀ x s', evalCode E (evalFn E k) none k af.body ⟨enterA af args, H, nx, fz, [], false⟩ = some (x, s') → fresh β nx s'.nx → c.wp P (Left P E B β S ⟨enterA af args, H, nx, fz, [], false⟩ w x s') _ w := fun x s' h1 h2 =>
          evalCode_ok hE ih1 hDk k c af.body B β S _ _ w x s' hcode hF h1 h2
        have fin : ∀ (mo : Option AV) (s' : St), leaveA (evalFn E k) af.res s'.tmps s'.defers mo s'.H s'.nx s'.fz = some b → ∀ β1 S1 a1 w1 u, Step P B (domB H) β S H nx w β1 S1 s'.fz s'.H s'.nx w1 → Fr P E B β1 S1 s' a1 w1 → ModeRep P β1 S1 w1 mo u → fresh β nx b.nx →
            s'.nx ≤ b.nx ∧ Leaves P fn a1.tmps (fun e w' => ∃ β' S', Step P B (domB H) β S H nx w β' S' b.fz b.H b.nx w' ∧ EndRep P β' S' w' b.res e) a1.defers u w1 := by
          intro mo s' hl β1 S1 a1 w1 u k1 k2 k3 k4
          exact leave_ok ih2 hres s'.defers mo s'.H s'.nx s'.fz hl β1 S1 w1 a1.defers u _ k2.inv k2.glob k2.tmp k2.defs k3 (fresh.next k1.grow k4) fun β' S' e w' q1 q2 => ⟨β', S', k1.trans q1 k4, q2⟩
        have nxle : ∀ (mo : Option AV) (s' : St), leaveA (evalFn E k) af.res s'.tmps s'.defers mo s'.H s'.nx s'.fz = some b → s'.nx ≤ b.nx := by
          intro mo s'
          have : ∀ (ds : List (FuncId × List AV)) (m : Option AV) (H : Heap) (nx : Nat) (fz : List Nat), leaveA (evalFn E k) af.res s'.tmps ds m H nx fz = some b → nx ≤ b.nx := by
            intro ds
            induction ds with
            | nil =>
              intro m H nx fz h
              cases m with
              | none => simp only [leaveA] at h; obtain ⟨_, _, rfl⟩ := Option.map_eq_some_iff.1 h; exact Nat.le_refl _
              | some v => simp only [leaveA] at h; cases h; exact Nat.le_refl _
            | cons d ds ih =>
              obtain ⟨f, args⟩ := d
              intro m H nx fz h
              simp only [leaveA] at h
              split at h
              · split at h
                · rename_i hle; exact Nat.le_trans hle (ih _ _ _ _ h)
                · cases h
              · cases h
          exact this _ _ _ _ _
        split at h
        · rename_i s' h1
          have hle := nxle _ _ h
          refine wp_mono (hev _ s' h1 (hf.fst hle)) ?_
          rintro e a1 w1 ⟨β1, S1, q1, q2, q3⟩
          simp only [ExRep] at q3
          subst q3
          exact (fin none s' h β1 S1 a1 w1 .returning q1 q2 rfl hf).2
        · rename_i s' h1
          have hle := nxle _ _ h
          refine wp_mono (hev _ s' h1 (hf.fst hle)) ?_
          rintro e a1 w1 ⟨β1, S1, q1, q2, q3⟩
          simp only [ExRep] at q3
          subst q3
          exact (fin none s' h β1 S1 a1 w1 .returning q1 q2 rfl hf).2
        · rename_i v s' h1
          have hle := nxle _ _ h
          refine wp_mono (hev _ s' h1 (hf.fst hle)) ?_
          rintro e a1 w1 ⟨β1, S1, q1, q2, vv, rfl, q4⟩
          exact (fin (some v) s' h β1 S1 a1 w1 _ q1 q2 ⟨vv, rfl, q4⟩ hf).2
        · cases h
    · -- a deferred call
      simp only [evalFn] at h
      split at h
      · cases h
      · rename_i af haf
        obtain ⟨fn, hfn, hcf⟩ := hC f af haf
        obtain ⟨hname, c, hb, hres, hcode, hnt, _⟩ := compFn_parts hcf
        refine ⟨⟨fn, hfn, by rw [hb]; rfl, hname⟩, fun B β S w vs u hI hG hr hf hM => ?_⟩
        split at h
        · rename_i ops rest hbody
          split at h
          · rename_i s1 h1
            split at h
            all_goals try (cases h; done)
            all_goals
              rename_i s2 h2
              split at h
              case isFalse => cases h
              rename_i hd
              obtain ⟨vA, hv, hEq⟩ := Option.map_eq_some_iff.1 h
              cases hEq
              rw [hbody] at hcode
              obtain ⟨c1, c2, id, mops, rfl, hc1, hc2, hmm⟩ : ∃ c1 c2 id mops, c = .seq c1 c2 ∧ c1 = .region id mops false ∧ compCode P E.gl c2 = some rest ∧ mops.toList.mapM (compOp P E.gl mops) = some ops := by
                cases c <;> simp only [compCode] at hcode <;> first
                  | (cases hcode; done)
                  | skip
                case seq c1 c2 =>
                  split at hcode
                  · rename_i a1 a2 k1 k2
                    cases hcode
                    refine ⟨c1, c2, ?_⟩
                    cases c1 <;> simp only [compCode] at k1 <;> first
                      | (cases k1; done)
                      | skip
                    case region id mops dr =>
                      split at k1
                      · cases k1
                      · rename_i as has
                        split at k1
                        · obtain ⟨_, _, k1⟩ := Option.map_eq_some_iff.1 k1; cases k1
                        · rename_i hdr
                          cases k1
                          have : dr = false := by simpa using hdr
                          subst this
                          exact ⟨id, mops, rfl, rfl, k2, has⟩
                    all_goals
                      first
                        | (obtain ⟨_, _, k1⟩ := Option.map_eq_some_iff.1 k1; cases k1; done)
                        | (split at k1 <;> cases k1; done)
                  · cases hcode
                case region id mops dr =>
                  exfalso
                  split at hcode
                  · cases hcode
                  · split at hcode
                    · obtain ⟨_, _, k1⟩ := Option.map_eq_some_iff.1 hcode; cases k1
                    · cases hcode
                all_goals
                  exfalso
                  first
                    | (obtain ⟨_, _, k1⟩ := Option.map_eq_some_iff.1 hcode; cases k1; done)
                    | (split at hcode <;> cases hcode; done)
              subst hc1
              refine callsD_of_wpS hfn hb ?_
              intro c₀ cs0 hmode
              have hc0 : ({ c₀ with mode := u } : Frame) = c₀ := by subst hmode; rfl
              refine wpS_seq (wpS_region ?_)
              have hlen := mapM_len hmm
              have hrg : List.range mops.size = List.range' 0 ops.length := by rw [List.range_eq_range', hlen]; simp
              rw [hrg]
              have hF := Fr.enter (nx := nx) (B := B) (af := af) (fn := fn) hnt hI hG hr
              have hm1 := evalOps_nx h1
              have hm2 := evalCode_nx evalDraw_nx _ _ _ _ _ h2
              rw [← hc0]
              refine evalOpsS_ok hE ih1 ops 0 ⟨enterA af args, H, nx, fz, [], false⟩ β S _ w u s1 (fun i ao hi => ?_) hF (by unfold ModeNow; simpa using hM) h1 (hf.fst hm2) ?_
              · obtain ⟨o, ho, hco⟩ := mapM_idx hmm i ao hi
                exact ⟨o, by simpa using ho, hco⟩
              · intro β1 S1 a1 w1 u1 k1 k2 k3
                show (Code.wpS P c2 _ a1 _ w1)
                refine wpS_of_wp (wp_mono (evalCode_ok hE ih1 hDk k c2 rest B β1 S1 s1 a1 w1 _ s2 hc2 k2 h2 (fresh.next k1.grow hf)) ?_)
                rintro e a2 w2 ⟨β2, S2, q1, q2, q3⟩
                simp only [ExRep] at q3
                subst q3
                have hds : a2.defers = [] := by
                  have hq := q2.defs
                  have : s2.defers = [] := by simpa using hd
                  rw [this] at hq
                  exact hq
                obtain ⟨vv, q4, q5⟩ := results_ok q2.inv q2.tmp hres hv
                refine ⟨hds, u1, rfl, vv, q4, β2, S2, k1.trans q1 hf, ⟨vv, rfl⟩, ?_⟩
                unfold ModeNow at k3
                cases hrr : s1.recd with
                | true =>
                  rw [hrr] at k3
                  simp only [if_true] at k3 ⊢
                  obtain ⟨vv', rfl⟩ := k3
                  rfl
                | false =>
                  rw [hrr] at k3
                  simp only [Bool.false_eq_true, if_false] at k3 ⊢
                  cases m with
                  | none => exact k3
                  | some mv => obtain ⟨vv', h5, h6⟩ := k3; exact ⟨vv', h5, rep_ext q1.ext _ _ h6⟩
          · cases h
        · cases h
end
end Go.Am
end
section
namespace Go.Am
open Go
def sameAtB (H : Heap) (fz : List Nat) (H2 : Heap) (fz2 : List Nat) (b : Nat) : Prop := getB H2 b = getB H b ∧ fz2.contains b = fz.contains b
structure Loc (W : Nat → Prop) (H : Heap) (fz : List Nat) (H' : Heap) (fz' : List Nat) (H2 : Heap) (fz2 : List Nat) (H2' : Heap) (fz2' : List Nat) : Prop where
  keep : ∀ b, ¬ W b → sameAtB H fz H' fz' b
  wr : ∀ b, W b → sameAtB H' fz' H2' fz2' b
  keep2 : ∀ b, ¬ W b → sameAtB H2 fz2 H2' fz2' b
section
variable {ρ ρ' : Opnd → AV} {fz fz2 : List Nat} {nx nx' : Nat} {H H' H2 : Heap} {i : Insn} {v : AV} {W : Nat → Prop}
theorem flatMap_same {α γ : Type} {f g : α → List γ} : ∀ {l : List α}, (∀ x ∈ l, f x = g x) → l.flatMap f = l.flatMap g
  | [], _ => rfl
  | x :: r, h => by
    simp only [List.flatMap_cons]
    rw [h x (by simp), flatMap_same fun y hy => h y (by simp [hy])]
theorem mapM_same {α γ : Type} {f g : α → Option γ} : ∀ {l : List α}, (∀ x ∈ l, f x = g x) → l.mapM f = l.mapM g
  | [], _ => rfl
  | x :: r, h => by
    rw [List.mapM_cons, List.mapM_cons, h x (by simp), mapM_same fun y hy => h y (by simp [hy])]
theorem tch_congr : ∀ (n : Nat) (x : AV), (∀ b ∈ tch H n x, getB H2 b = getB H b) → tch H2 n x = tch H n x := by
  intro n
  induction n with
  | zero => intro x _; cases x <;> rfl
  | succ n ih =>
    intro x h
    have lst : ∀ (l : List AV), (∀ b ∈ l.flatMap (tch H n), getB H2 b = getB H b) → l.flatMap (tch H2 n) = l.flatMap (tch H n) := fun l hl =>
      flatMap_same fun y hy => ih y fun b hb => hl b (List.mem_flatMap.2 ⟨y, hy, hb⟩)
    cases x with
    | ptr b off =>
      simp only [tch] at h ⊢
      have hb := h b (by simp)
      rw [hb]
      congr 1
      split at h
      · rename_i e s cs hg
        exact lst _ fun c hc => h c (List.mem_cons_of_mem _ hc)
      · rfl
    | sl b off len =>
      simp only [tch] at h ⊢
      have hb := h b (by simp)
      rw [hb]
      congr 1
      split at h
      · rename_i e s cs hg
        exact lst _ fun c hc => h c (List.mem_cons_of_mem _ hc)
      · rfl
    | map b =>
      simp only [tch] at h ⊢
      have hb := h b (by simp)
      rw [hb]
      congr 1
      split at h
      · rename_i ks vs hg
        rw [lst ks fun c hc => h c (List.mem_cons_of_mem _ (List.mem_append_left _ hc)), lst vs fun c hc => h c (List.mem_cons_of_mem _ (List.mem_append_right _ hc))]
      · rfl
    | agg cs => simp only [tch] at h ⊢; exact lst _ h
    | tuple cs => simp only [tch] at h ⊢; exact lst _ h
    | iface t y => simp only [tch] at h ⊢; exact ih y h
    | func f a b =>
      simp only [tch] at h ⊢
      rw [lst a fun c hc => h c (List.mem_append_left _ hc), lst b fun c hc => h c (List.mem_append_right _ hc)]
    | _ => rfl
theorem frz_congr : ∀ (n : Nat) (x : AV), (∀ b ∈ tch H n x, getB H2 b = getB H b) → frz H2 n x = frz H n x := by
  intro n
  induction n with
  | zero => intro x _; cases x <;> rfl
  | succ n ih =>
    intro x h
    have lst : ∀ (l : List AV), (∀ b ∈ l.flatMap (tch H n), getB H2 b = getB H b) → l.mapM (frz H2 n) = l.mapM (frz H n) := fun l hl =>
      mapM_same fun y hy => ih y fun b hb => hl b (List.mem_flatMap.2 ⟨y, hy, hb⟩)
    cases x with
    | ptr b off =>
      simp only [tch, frz] at h ⊢
      have hb := h b (by simp)
      rw [hb]
      split at h
      · rename_i e s cs hg
        rw [lst _ fun c hc => h c (List.mem_cons_of_mem _ hc)]
      · rename_i hn
        cases hg : getB H b with
        | none => rfl
        | some x => cases x with
          | cells e s cs => exact absurd hg (hn e s cs)
          | map ks vs => rfl
    | sl b off len =>
      simp only [tch, frz] at h ⊢
      have hb := h b (by simp)
      rw [hb]
      split at h
      · rename_i e s cs hg
        rw [lst _ fun c hc => h c (List.mem_cons_of_mem _ hc)]
      · rename_i hn
        cases hg : getB H b with
        | none => rfl
        | some x => cases x with
          | cells e s cs => exact absurd hg (hn e s cs)
          | map ks vs => rfl
    | map b =>
      simp only [tch, frz] at h ⊢
      have hb := h b (by simp)
      rw [hb]
      split at h
      · rename_i ks vs hg
        rw [lst ks fun c hc => h c (List.mem_cons_of_mem _ (List.mem_append_left _ hc)), lst vs fun c hc => h c (List.mem_cons_of_mem _ (List.mem_append_right _ hc))]
      · rename_i hn
        cases hg : getB H b with
        | none => rfl
        | some x => cases x with
          | cells e s cs => rfl
          | map ks vs => exact absurd hg (hn ks vs)
    | agg cs => simp only [tch, frz] at h ⊢; rw [lst _ h]
    | tuple cs => simp only [tch, frz] at h ⊢; rw [lst _ h]
    | iface t y => simp only [tch, frz] at h ⊢; rw [ih y h]
    | func f a b =>
      simp only [tch, frz] at h ⊢
      rw [lst a fun c hc => h c (List.mem_append_left _ hc), lst b fun c hc => h c (List.mem_append_right _ hc)]
    | _ => rfl
theorem restrict_congr : ∀ (T : List Nat), (∀ b ∈ T, getB H2 b = getB H b) → restrict H2 T = restrict H T
  | [], _ => rfl
  | b :: r, h => by
    simp only [restrict]
    rw [restrict_congr r fun c hc => h c (by simp [hc]), h b (by simp)]
theorem loc_refl : Loc W H fz H fz H2 fz2 H2 fz2 ↔ ∀ b, W b → sameAtB H fz H2 fz2 b :=
  ⟨fun h => h.wr, fun h => ⟨fun _ _ => ⟨rfl, rfl⟩, h, fun _ _ => ⟨rfl, rfl⟩⟩⟩
theorem loc_set {b : Nat} {x : Option Blk} (hw : ∀ c, W c ↔ c = b) (hf : fz2.contains b = fz.contains b) : Loc W H fz (setB H b x) fz H2 fz2 (setB H2 b x) fz2 := by
  refine ⟨fun c hc => ?_, fun c hc => ?_, fun c hc => ?_⟩
  · rw [hw] at hc; exact ⟨by rw [getB_setB, if_neg hc], rfl⟩
  · rw [hw] at hc; subst hc; exact ⟨by rw [getB_setB, getB_setB, if_pos rfl, if_pos rfl], hf⟩
  · rw [hw] at hc; exact ⟨by rw [getB_setB, if_neg hc], rfl⟩
theorem callA_loc {E : Env} {call : CallT} {f : FuncId} {args : List AV} {b : Back} (h : callA E call f args H nx fz = some b) (hs : ∀ x ∈ args.flatMap (tch H (depthOf nx)), sameAtB H fz H2 fz2 x)
    (hnew : ∀ x, nx ≤ x → x < b.nx → sameAtB H fz H2 fz2 x) :
    ∃ b2, callA E call f args H2 nx fz2 = some b2 ∧ b2.res = b.res ∧ b2.nx = b.nx ∧
      Loc (fun x => x ∈ (if byValue E f && fz.length == b.fz.length then [] else args.flatMap (tch H (depthOf nx))) ∨ (nx ≤ x ∧ x < b.nx)) H fz b.H b.fz H2 fz2 b2.H b2.fz := by
  have hT : args.flatMap (tch H2 (depthOf nx)) = args.flatMap (tch H (depthOf nx)) := flatMap_same fun y hy => tch_congr _ y fun c hc => (hs c (List.mem_flatMap.2 ⟨y, hy, hc⟩)).1
  have hF : args.mapM (frz H2 (depthOf nx)) = args.mapM (frz H (depthOf nx)) := mapM_same fun y hy => frz_congr _ y fun c hc => (hs c (List.mem_flatMap.2 ⟨y, hy, hc⟩)).1
  have hR := restrict_congr (H := H) (H2 := H2) _ fun c hc => (hs c hc).1
  have hFl : ((args.flatMap (tch H (depthOf nx))).filter fun x => fz2.contains x) = ((args.flatMap (tch H (depthOf nx))).filter fun x => fz.contains x) := List.filter_congr fun c hc => (hs c hc).2
  have hb : ∀ {b0 : Option Back}, byValue E f = false → hback (args.flatMap (tch H (depthOf nx))) H nx fz b0 = some b → ∃ b2, hback (args.flatMap (tch H (depthOf nx))) H2 nx fz2 b0 = some b2 ∧ b2.res = b.res ∧ b2.nx = b.nx ∧
      Loc (fun x => x ∈ (if byValue E f && fz.length == b.fz.length then [] else args.flatMap (tch H (depthOf nx))) ∨ (nx ≤ x ∧ x < b.nx)) H fz b.H b.fz H2 fz2 b2.H b2.fz := by
    intro b0 hbv h0
    cases b0 with
    | none => cases h0
    | some b1 =>
      simp only [hback] at h0 ⊢
      split at h0
      · rename_i hle
        cases h0
        simp only [hle, if_true]
        refine ⟨_, rfl, rfl, rfl, ?_⟩
        simp only [hbv, Bool.false_and, Bool.false_eq_true, if_false]
        refine ⟨fun x hx => ⟨by rw [getB_merge, if_neg hx], ?_⟩, fun x hx => ⟨by rw [getB_merge, getB_merge, if_pos hx, if_pos hx], ?_⟩, fun x hx => ⟨by rw [getB_merge, if_neg hx], ?_⟩⟩
        · rw [Bool.eq_iff_iff]
          simp
          intro _ h1
          exact absurd (h1.imp (fun h => List.mem_flatMap.2 h) id) hx
        · have he : fz2.contains x = fz.contains x := by
            rcases hx with hx | hx
            · exact (hs x hx).2
            · exact (hnew x hx.1 hx.2).2
          rw [Bool.eq_iff_iff] at he ⊢
          simp at he ⊢
          simp [he]
        · rw [Bool.eq_iff_iff]
          simp
          intro _ h1
          exact absurd (h1.imp (fun h => List.mem_flatMap.2 h) id) hx
      · cases h0
  have pb : ∀ {r : AV → Res} {y : AV}, pback (args.flatMap (tch H (depthOf nx))) H nx fz r y = some b → ∃ b2, pback (args.flatMap (tch H (depthOf nx))) H2 nx fz2 r y = some b2 ∧ b2.res = b.res ∧ b2.nx = b.nx ∧
      Loc (fun x => x ∈ (if byValue E f && fz.length == b.fz.length then [] else args.flatMap (tch H (depthOf nx))) ∨ (nx ≤ x ∧ x < b.nx)) H fz b.H b.fz H2 fz2 b2.H b2.fz := by
    intro r y h0
    simp only [pback, Option.some.injEq] at h0
    subst h0
    refine ⟨_, rfl, rfl, rfl, ?_⟩
    simp only
    cases hr : hasRef y with
    | false =>
      simp only [Bool.false_eq_true, if_false]
      refine loc_refl.2 fun x hx => ?_
      rcases hx with hx | hx
      · split at hx
        · cases hx
        · exact hs x hx
      · omega
    | true =>
      simp only [if_true]
      have con : ∀ (g : List Nat) (x : Nat), ((args.flatMap (tch H (depthOf nx))).filter (fun x => !g.contains x) ++ g).contains x = ((args.flatMap (tch H (depthOf nx))).contains x || g.contains x) := fun g x => by
        rw [Bool.eq_iff_iff]
        simp
        by_cases e : x ∈ g <;> simp [e]
      refine ⟨fun x hx => ⟨rfl, ?_⟩, fun x hx => ⟨?_, ?_⟩, fun x hx => ⟨rfl, ?_⟩⟩
      · rw [con]
        split at hx
        · rename_i hc
          have hnil : (args.flatMap (tch H (depthOf nx))).filter (fun x => !fz.contains x) = [] := by
            simp only [Bool.and_eq_true, beq_iff_eq, List.length_append] at hc
            exact List.eq_nil_of_length_eq_zero (by omega)
          cases hm : (args.flatMap (tch H (depthOf nx))).contains x with
          | false => rfl
          | true =>
            have := List.filter_eq_nil_iff.1 hnil x (by simpa using hm)
            simpa using this
        · have : (args.flatMap (tch H (depthOf nx))).contains x = false := by
            simp only [List.contains_eq_mem, decide_eq_false_iff_not]
            exact fun hm => hx (.inl hm)
          rw [this]; rfl
      · rcases hx with hx | hx
        · split at hx
          · cases hx
          · exact (hs x hx).1
        · omega
      · rcases hx with hx | hx
        · split at hx
          · cases hx
          · rw [con, con, (hs x hx).2]
        · omega
      · rw [con]
        split at hx
        · rename_i hc
          have hnil : (args.flatMap (tch H (depthOf nx))).filter (fun x => !fz.contains x) = [] := by
            simp only [Bool.and_eq_true, beq_iff_eq, List.length_append] at hc
            exact List.eq_nil_of_length_eq_zero (by omega)
          cases hm : (args.flatMap (tch H (depthOf nx))).contains x with
          | false => rfl
          | true =>
            have h1 := List.filter_eq_nil_iff.1 hnil x (by simpa using hm)
            have h2 := (hs x (by simpa using hm)).2
            rw [h2]
            simpa using h1
        · have : (args.flatMap (tch H (depthOf nx))).contains x = false := by
            simp only [List.contains_eq_mem, decide_eq_false_iff_not]
            exact fun hm => hx (.inl hm)
          rw [this]; rfl
  simp only [callA] at h ⊢
  rw [hT, hF, hR, hFl]
  cases h1 : E.hprim f with
  | some g => simp only [h1] at h ⊢; exact hb (by simp [byValue, h1]) h
  | none =>
    simp only [h1] at h ⊢
    cases h2 : E.prim f with
    | some g =>
      simp only [h2] at h ⊢
      split at h
      · split at h
        · exact pb h
        · cases h
      · cases h
    | none =>
      simp only [h2] at h ⊢
      cases h3 : E.code f with
      | none => simp only [h3] at h; cases h
      | some fn =>
        simp only [h3] at h ⊢
        cases h4 : fn.heap with
        | true => simp only [h4, if_true] at h ⊢; exact hb (by simp [byValue, h1, h2, h3, h4]) h
        | false =>
          simp only [h4, Bool.false_eq_true, if_false] at h ⊢
          split at h
          · split at h
            · split at h
              · split at h
                · exact pb h
                · cases h
              · split at h
                · exact pb h
                · cases h
            · cases h
          · cases h
end
end Go.Am
end
section
namespace Go.Am
open Go
section
variable {ρ ρ' : Opnd → AV} {fz fz2 : List Nat} {nx nx' : Nat} {H H' H2 : Heap} {i : Insn} {v : AV} {W : Nat → Prop}
theorem evalI_congr (h : ∀ x ∈ opndsI i, ρ' x = ρ x) : evalI ρ' fz nx H i = evalI ρ fz nx H i := by
  cases i
  case build zero ps =>
    have : ps.map (fun (o, s, x) => (o, s, ρ' x)) = ps.map (fun (o, s, x) => (o, s, ρ x)) := List.map_congr_left fun p hp => by
      obtain ⟨o, s, x⟩ := p
      simp only
      rw [h x (List.mem_map.2 ⟨(o, s, x), hp, rfl⟩)]
    simp only [evalI, this]
  case bslice e s l z ps =>
    have : ps.map (fun (o, s, x) => (o, s, ρ' x)) = ps.map (fun (o, s, x) => (o, s, ρ x)) := List.map_congr_left fun p hp => by
      obtain ⟨o, s, x⟩ := p
      simp only
      rw [h x (List.mem_map.2 ⟨(o, s, x), hp, rfl⟩)]
    simp only [evalI, this]
  case mkfn f a b =>
    simp only [evalI]
    rw [List.map_congr_left fun x hx => h x (List.mem_append_left _ hx), List.map_congr_left fun x hx => h x (List.mem_append_right _ hx)]
  case minmax m xs =>
    simp only [evalI]
    rw [List.map_congr_left (l := xs) fun x hx => h x hx]
  case slice str sz x lo hi =>
    have h1 : ρ' x = ρ x := h x (by simp [opndsI])
    have h2 : ∀ y, lo = some y → ρ' y = ρ y := fun y hy => h y (by simp [opndsI, hy])
    have h3 : ∀ y, hi = some y → ρ' y = ρ y := fun y hy => h y (by simp [opndsI, hy])
    cases lo <;> cases hi <;> simp only [evalI, h1] <;> simp_all
  all_goals
    simp only [opndsI, List.mem_cons, List.not_mem_nil, or_false, forall_eq_or_imp, forall_eq] at h
    simp only [evalI, h]
theorem cellsAt_congr {x : AV} (h : ∀ b ∈ topOf x, getB H2 b = getB H b) : cellsAt H2 x = cellsAt H x := by
  cases x <;> simp only [cellsAt]
  case ptr b off => rw [h b (by simp [topOf])]
theorem rowOf_congr {x : AV} {sz : Nat} (h : ∀ b ∈ topOf x, getB H2 b = getB H b) : rowOf H2 sz x = rowOf H sz x := by
  cases x <;> simp only [rowOf]
  case sl b off len => rw [h b (by simp [topOf])]
theorem srcA_congr {x : AV} {sz : Nat} (h : ∀ b ∈ topOf x, getB H2 b = getB H b) : srcA H2 sz x = srcA H sz x := by
  cases x <;> simp only [srcA] <;> exact rowOf_congr h
theorem pure_loc {r : Option AV} (h : Out.pure H nx r = some (v, H', nx')) : H' = H ∧ nx' = nx ∧ ∀ H2, Out.pure H2 nx r = some (v, H2, nx) := by
  obtain ⟨h1, h2, h3⟩ := out_pure h
  subst h1
  exact ⟨h2, h3, fun _ => rfl⟩
def reads : Insn → Bool
  | .alloc .. | .box .. | .bslice .. | .mkmap | .mkslice .. | .store .. | .insert .. | .append .. | .appendz .. | .copy .. | .callf .. | .callv .. | .defer .. | .recover | .panic _ => false
  | _ => true
def topsI (ρ : Opnd → AV) : Insn → List Nat
  | .load _ _ a | .store _ a _ => topOf (ρ a)
  | .insert _ m _ _ => topOf (ρ m)
  | .lookup _ _ _ x _ | .slice false _ x _ _ | .len 2 x | .conv .toStr x => topOf (ρ x)
  | .append _ _ _ d x | .appendz _ _ _ _ d x | .copy _ d x => topOf (ρ d) ++ topOf (ρ x)
  | _ => []
theorem evalI_reads (hr : reads i = true) (h : evalI ρ fz nx H i = some (v, H', nx')) (hs : ∀ b ∈ topsI ρ i, getB H2 b = getB H b) : H' = H ∧ nx' = nx ∧ evalI ρ fz2 nx H2 i = some (v, H2, nx) := by
  cases i
  case load ag n a =>
    simp only [evalI] at h ⊢
    rw [cellsAt_congr (H := H) hs]
    split at h
    · rename_i cs hc
      obtain ⟨h1, h2, h3⟩ := pure_loc h
      exact ⟨h1, h2, h3 H2⟩
    · cases h
  case lookup kind zero ok x k =>
    simp only [evalI] at h ⊢
    cases hv : ρ x with
    | map b =>
      simp only [hv] at h ⊢
      rw [hs b (by simp [topsI, topOf, hv])]
      split at h
      · rename_i ks vs hks
        split at h
        · rename_i r hf
          cases h
          rename_i blk hg
          simp only [hks, hf]
          exact ⟨trivial, trivial, trivial⟩
        · cases h
      · cases h
    | nilm | fmap ks vs =>
      simp only [hv] at h ⊢
      split at h
      · rename_i r hf
        cases h
        simp only [hf]
        exact ⟨trivial, trivial, trivial⟩
      · cases h
    | _ => simp only [hv] at h; cases h
  case len kind x =>
    simp only [evalI] at h ⊢
    split at h
    · rename_i s h1; cases h; refine ⟨rfl, rfl, ?_⟩; simp only [h1]
    · rename_i h1; cases h; refine ⟨rfl, rfl, ?_⟩; simp only [h1]
    · rename_i h1; cases h; refine ⟨rfl, rfl, ?_⟩; simp only [h1]
    · rename_i h1; cases h; refine ⟨rfl, rfl, ?_⟩; simp only [h1]
    · rename_i h1; cases h; refine ⟨rfl, rfl, ?_⟩; simp only [h1]
    · rename_i h1; cases h; refine ⟨rfl, rfl, ?_⟩; simp only [h1]
    · rename_i b hb
      have hg := hs b (by simp [topsI, topOf, hb])
      simp only [hb, hg]
      split at h
      · rename_i ks vs hk
        cases h
        exact ⟨rfl, rfl, rfl⟩
      · cases h
    · cases h
  case conv k x =>
    simp only [evalI] at h ⊢
    split at h
    · rename_i h1; cases h; refine ⟨rfl, rfl, ?_⟩; simp only [h1]
    · rename_i h1; cases h; refine ⟨rfl, rfl, ?_⟩; simp only [h1]
    · rename_i h1; cases h; refine ⟨rfl, rfl, ?_⟩; simp only [h1]
    · rw [rowOf_congr (H := H) hs]
      split at h
      · rename_i cs hc
        obtain ⟨h1, h2, h3⟩ := pure_loc h
        exact ⟨h1, h2, h3 H2⟩
      · cases h
    · cases h
  case slice str sz x lo hi =>
    have hsz : ∀ b off n, str = false → ρ x = .sl b off n → sizeB H2 b = sizeB H b := fun b off n hst hb => by
      subst hst
      unfold sizeB
      rw [hs b (by simp [topsI, topOf, hb])]
    simp only [evalI] at h ⊢
    split at h
    · rename_i hx
      split at h
      · split at h
        · cases h; simp_all
        · cases h
      · cases h
    · rename_i hx
      split at h
      · split at h
        · cases h; simp_all
        · cases h
      · cases h
    · rename_i hx
      split at h
      · split at h
        · cases h; simp_all
        · cases h
      · cases h
    · rename_i b off n hx
      have := hsz _ _ _ rfl hx
      split at h
      · split at h
        · cases h; simp_all
        · cases h
      · cases h
    · cases h
  case eqagg neg x y =>
    simp only [evalI] at h ⊢
    split at h
    · exact ⟨(pure_loc h).1, (pure_loc h).2.1, (pure_loc h).2.2 H2⟩
    · cases h
  all_goals first
    | (cases hr; done)
    | (simp only [evalI] at h; cases h; done)
    | (simp only [evalI] at h ⊢; obtain ⟨h1, h2, h3⟩ := pure_loc h; exact ⟨h1, h2, h3 H2⟩)
    | (simp only [evalI] at h ⊢; cases h; exact ⟨rfl, rfl, rfl⟩)
    | skip
  case pick c a b =>
    simp only [evalI] at h ⊢
    split at h
    · rename_i t ht
      cases h
      simp [ht]
    · cases h
  all_goals
    simp only [evalI] at h ⊢
    repeat' split at h
    all_goals first
      | (cases h; done)
      | (cases h; refine ⟨rfl, rfl, ?_⟩; simp [*]; done)
      | exact ⟨(pure_loc h).1, (pure_loc h).2.1, (pure_loc h).2.2 H2⟩
      | (refine ⟨(pure_loc h).1, (pure_loc h).2.1, ?_⟩; rw [if_pos (by assumption)]; exact (pure_loc h).2.2 H2)
end
end Go.Am
end
section
namespace Go.Am
open Go
def wtops (ρ : Opnd → AV) (i : Insn) : List Nat := match i with
  | .store .. | .insert .. | .append .. | .appendz .. | .copy .. => topsI ρ i
  | _ => []
section
variable {ρ ρ' : Opnd → AV} {fz fz2 : List Nat} {nx nx' : Nat} {H H' H2 H2' : Heap} {i : Insn} {v : AV} {W : Nat → Prop}
theorem loc_of (h1 : ∀ b, W b → getB H2' b = getB H' b) (h2 : ∀ b, ¬ W b → getB H' b = getB H b) (h3 : ∀ b, ¬ W b → getB H2' b = getB H2 b) (hf : ∀ b, W b → fz2.contains b = fz.contains b) : Loc W H fz H' fz H2 fz2 H2' fz2 :=
  ⟨fun b hb => ⟨h2 b hb, rfl⟩, fun b hb => ⟨h1 b hb, hf b hb⟩, fun b hb => ⟨h3 b hb, rfl⟩⟩
theorem loc_alloc {x : Blk} {wt : List Nat} (hwt : ∀ b ∈ wt, sameAtB H fz H2 fz2 b) (hn : fz2.contains nx = fz.contains nx) : Loc (fun b => b ∈ wt ∨ (nx ≤ b ∧ b < nx + 1)) H fz (setB H nx (some x)) fz H2 fz2 (setB H2 nx (some x)) fz2 := by
  refine loc_of (fun b hb => ?_) (fun b hb => ?_) (fun b hb => ?_) (fun b hb => ?_)
  · rw [getB_setB, getB_setB]
    split
    · rfl
    · rename_i e
      rcases hb with hb | hb
      · exact (hwt b hb).1
      · omega
  · rw [getB_setB, if_neg]; exact fun e => hb (.inr (by omega))
  · rw [getB_setB, if_neg]; exact fun e => hb (.inr (by omega))
  · rcases hb with hb | hb
    · exact (hwt b hb).2
    · have : b = nx := by omega
      subst this; exact hn
theorem loc_put {c : Nat} {x : Option Blk} {wt : List Nat} (hc : c ∈ wt) (hwt : ∀ b ∈ wt, sameAtB H fz H2 fz2 b) : Loc (fun b => b ∈ wt ∨ (nx ≤ b ∧ b < nx)) H fz (setB H c x) fz H2 fz2 (setB H2 c x) fz2 := by
  refine loc_of (fun b hb => ?_) (fun b hb => ?_) (fun b hb => ?_) (fun b hb => ?_)
  · rw [getB_setB, getB_setB]
    split
    · rfl
    · rcases hb with hb | hb
      · exact (hwt b hb).1
      · omega
  · rw [getB_setB, if_neg]; exact fun e => hb (.inl (e ▸ hc))
  · rw [getB_setB, if_neg]; exact fun e => hb (.inl (e ▸ hc))
  · rcases hb with hb | hb
    · exact (hwt b hb).2
    · omega
theorem loc_same {wt : List Nat} (hwt : ∀ b ∈ wt, sameAtB H fz H2 fz2 b) : Loc (fun b => b ∈ wt ∨ (nx ≤ b ∧ b < nx)) H fz H fz H2 fz2 H2 fz2 :=
  loc_refl.2 fun b hb => by
    rcases hb with hb | hb
    · exact hwt b hb
    · omega
theorem append_loc {elem : TypeId} {sz bytes n : Nat} {s : AV} {new : List AV} {wt : List Nat} (h : appendA fz nx H elem sz bytes s new n = some (v, H', nx')) (ht : ∀ b ∈ topOf s, b ∈ wt) (hwt : ∀ b ∈ wt, sameAtB H fz H2 fz2 b) (hn : nx < nx' → fz2.contains nx = fz.contains nx) :
    ∃ H2', appendA fz2 nx H2 elem sz bytes s new n = some (v, H2', nx') ∧ Loc (fun b => b ∈ wt ∨ (nx ≤ b ∧ b < nx')) H fz H' fz H2 fz2 H2' fz2 := by
  unfold appendA at h ⊢
  split at h
  · split at h
    · rename_i h0
      cases h
      exact ⟨H2, by simp [h0], loc_same hwt⟩
    · rename_i h0
      split at h
      · rename_i h1
        cases h
        exact ⟨_, by simp only [h0, h1, if_true, if_false], loc_alloc hwt (hn (by omega))⟩
      · cases h
  · rename_i b len
    obtain ⟨hg, hf⟩ := hwt b (ht b (by simp [topOf]))
    simp only [hg, hf]
    split at h
    · rename_i e s' cs hc
      split at h
      · rename_i hcond
        cases h
        simp only [if_pos hcond]
        refine ⟨_, rfl, loc_of (fun c hb => ?_) (fun c hb => ?_) (fun c hb => ?_) (fun c hb => ?_)⟩
        · simp only [getB_setB]
          split
          · rfl
          · rename_i e1
            split
            · rfl
            · rcases hb with hb | hb
              · exact (hwt c hb).1
              · omega
        · rw [getB_setB, getB_setB, if_neg, if_neg]
          · rintro rfl; exact hb (.inl (ht c (by simp [topOf])))
          · intro e1; exact hb (.inr (by omega))
        · rw [getB_setB, getB_setB, if_neg, if_neg]
          · rintro rfl; exact hb (.inl (ht c (by simp [topOf])))
          · intro e1; exact hb (.inr (by omega))
        · rcases hb with hb | hb
          · exact (hwt c hb).2
          · have : c = nx := by omega
            subst this; exact hn (by omega)
      · cases h
    · cases h
  · cases h
theorem evalI_loc (h : evalI ρ fz nx H i = some (v, H', nx')) (hs : ∀ b ∈ topsI ρ i, sameAtB H fz H2 fz2 b) (hn : nx < nx' → fz2.contains nx = fz.contains nx) :
    ∃ H2', evalI ρ fz2 nx H2 i = some (v, H2', nx') ∧ Loc (fun b => b ∈ wtops ρ i ∨ (nx ≤ b ∧ b < nx')) H fz H' fz H2 fz2 H2' fz2 := by
  by_cases hr : reads i = true
  · obtain ⟨h1, h2, h3⟩ := evalI_reads (fz2 := fz2) hr h fun b hb => (hs b hb).1
    subst h1 h2
    refine ⟨H2, h3, loc_same fun b hb => ?_⟩
    cases i <;> first | (cases hr; done) | (simp only [wtops] at hb; cases hb)
  · cases i <;> first | exact absurd rfl hr | skip
    case alloc e s z =>
      simp only [evalI] at h ⊢
      cases h
      exact ⟨_, rfl, loc_alloc (fun b hb => by simp only [wtops] at hb; cases hb) (hn (by omega))⟩
    case mkmap =>
      simp only [evalI] at h ⊢
      cases h
      exact ⟨_, rfl, loc_alloc (fun b hb => by simp only [wtops] at hb; cases hb) (hn (by omega))⟩
    case box e s x =>
      simp only [evalI] at h ⊢
      split at h
      · rename_i hc
        cases h
        exact ⟨_, by simp only [hc, if_true], loc_alloc (fun b hb => by simp only [wtops] at hb; cases hb) (hn (by omega))⟩
      · cases h
    case bslice e s l z ps =>
      simp only [evalI] at h ⊢
      split at h
      · rename_i cs hc
        split at h
        · rename_i hf
          cases h
          exact ⟨_, by simp only [hf, if_true], loc_alloc (fun b hb => by simp only [wtops] at hb; cases hb) (hn (by omega))⟩
        · cases h
      · cases h
    case mkslice e s by' z l c =>
      simp only [evalI] at h ⊢
      split at h
      · rename_i hl hc
        split at h
        · rename_i hcond
          cases h
          refine ⟨_, ?_, loc_alloc (fun b hb => by simp only [wtops] at hb; cases hb) (hn (by omega))⟩
          simp only [hl, hc, if_pos hcond]
        · cases h
      · cases h
    case store n a x =>
      simp only [evalI] at h ⊢
      split at h
      · rename_i b off hb
        obtain ⟨hg, hf⟩ := hs b (by simp [topsI, topOf, hb])
        simp only [hb, hg, hf]
        split at h
        · split at h
          · rename_i hcond
            cases h
            simp only [if_pos hcond]
            exact ⟨_, rfl, loc_put (by simp [wtops, topsI, topOf, hb]) (by simpa [wtops] using hs)⟩
          · cases h
        · cases h
      · cases h
    case insert kind m k x =>
      simp only [evalI] at h ⊢
      split at h
      · rename_i b hb
        obtain ⟨hg, hf⟩ := hs b (by simp [topsI, topOf, hb])
        simp only [hb, hg, hf]
        split at h
        · split at h
          · rename_i hcond
            cases h
            try simp only [hcond]
            exact ⟨_, rfl, loc_put (by simp [wtops, topsI, topOf, hb]) (by simpa [wtops] using hs)⟩
          · rename_i hcond
            cases h
            try simp only [hcond]
            exact ⟨_, rfl, loc_put (by simp [wtops, topsI, topOf, hb]) (by simpa [wtops] using hs)⟩
          · cases h
        · cases h
      · cases h
    case copy sz d x =>
      have hsrc := srcA_congr (H := H) (H2 := H2) (x := ρ x) (sz := sz) fun b hb => (hs b (by simp [topsI, hb])).1
      simp only [evalI] at h ⊢
      split at h
      · rename_i b off len hb
        obtain ⟨hg, hf⟩ := hs b (by simp [topsI, topOf, hb])
        simp only [hb, hg, hf, hsrc]
        split at h
        · rename_i hgs hss
          split at h
          · rename_i hcond
            cases h
            simp only [if_pos hcond]
            exact ⟨_, rfl, loc_put (by simp [wtops, topsI, topOf, hb]) (by simpa [wtops] using hs)⟩
          · cases h
        · cases h
      · cases h
    case append e sz by' s x =>
      have hrow := rowOf_congr (H := H) (H2 := H2) (x := ρ x) (sz := sz) fun b hb => (hs b (by simp [topsI, hb])).1
      simp only [evalI] at h ⊢
      split at h
      · rename_i t ht
        try simp only [ht]
        split at h
        · rename_i h1
          rw [if_pos h1]
          exact append_loc h (by simp [wtops, topsI]; exact fun b hb => .inl hb) (by simpa [wtops] using hs) hn
        · cases h
      · rename_i u hne
        cases hx : ρ x <;> first
          | exact absurd hx (hne _)
          | skip
        all_goals
          simp only [hx] at h hrow ⊢
          rw [hrow]
          split at h
          · rename_i cs hcs
            exact append_loc h (by simp [wtops, topsI]; exact fun b hb => .inl hb) (by simpa [wtops] using hs) hn
          · cases h
    case appendz e sz by' z s x =>
      simp only [evalI] at h ⊢
      split at h
      · rename_i n hx
        try simp only [hx]
        split at h
        · rename_i h1
          simp only [if_pos h1]
          exact append_loc h (by simp [wtops, topsI]; exact fun b hb => .inl hb) (by simpa [wtops] using hs) hn
        · cases h
      · cases h
    all_goals (simp only [evalI] at h; cases h)
end
end Go.Am
end
section
namespace Go.Am
open Go
section
variable {P : Program} {E : Env} {call : CallT} {ao : AOp} {s s2 s' : St} {x : Ex} {b : Nat}
theorem mem_span : ∀ (n a b : Nat), b ∈ span a n ↔ a ≤ b ∧ b < a + n
  | 0, a, b => by simp [span]
  | n + 1, a, b => by
    simp only [span, List.mem_cons, mem_span n (a + 1) b]
    omega
def wold (E : Env) (i : Insn) (foot : List Nat) (s s' : St) : List Nat :=
  match i with
  | .store .. | .insert .. | .append .. | .appendz .. | .copy .. => foot
  | .callf f _ => if byValue E f && s.fz.length == s'.fz.length then [] else foot
  | .callv x _ => match s.eval E x with
    | .func f _ _ => if byValue E f && s.fz.length == s'.fz.length then [] else foot
    | _ => []
  | _ => []
theorem mem_writes (hle : s.nx ≤ s'.nx) {i : Insn} {foot : List Nat} : b ∈ writesOf E i foot s s' ↔ b ∈ wold E i foot s s' ∨ (s.nx ≤ b ∧ b < s'.nx) := by
  have : writesOf E i foot s s' = wold E i foot s s' ++ span s.nx (s'.nx - s.nx) := rfl
  rw [this, List.mem_append, mem_span]
  have : s.nx + (s'.nx - s.nx) = s'.nx := by omega
  rw [this]
theorem wold_foot {i : Insn} {foot : List Nat} (h : b ∈ wold E i foot s s') : b ∈ foot := by
  unfold wold at h
  split at h <;> first
    | exact h
    | (cases h; done)
    | (split at h
       · cases h
       · exact h)
    | (split at h
       · split at h
         · cases h
         · exact h
       · cases h)
theorem eval_looks (ht : ∀ t ∈ looksA ao, getT s2.tmps t = getT s.tmps t) : ∀ y ∈ opndsI ao.ins, s2.eval E y = s.eval E y := fun y hy => by
  cases y with
  | tmp t => exact ht t (List.mem_append_left _ (List.mem_filterMap.2 ⟨.tmp t, hy, rfl⟩))
  | const v => rfl
  | glob g => rfl
theorem wanted_looks (ht : ∀ t ∈ looksA ao, getT s2.tmps t = getT s.tmps t) : wantedA s2 ao.guard = wantedA s ao.guard := by
  cases hg : ao.guard with
  | none => rfl
  | some g =>
    obtain ⟨t, c⟩ := g
    have := ht t (by simp [looksA, hg])
    simp only [wantedA, this]
structure Same (E : Env) (call : CallT) (ao : AOp) (s : St) (x : Ex) (s' s2 s2' : St) : Prop where
  run : evalOp E call none ao s2 = some (x, s2')
  nx : s2'.nx = s'.nx
  loc : Loc (fun b => b ∈ writesOf E ao.ins (footOf E s ao.ins) s s') s.H s.fz s'.H s'.fz s2.H s2.fz s2'.H s2'.fz
  tmps : x = .normal → ∃ v, s'.tmps = (s.put ao.dst v).tmps ∧ s2'.tmps = (s2.put ao.dst v).tmps
  stay : x ≠ .normal → s'.tmps = s.tmps ∧ s2'.tmps = s2.tmps
  defers : s'.defers = s.defers
  defers2 : s2'.defers = s2.defers
theorem Loc.weaken {W W' : Nat → Prop} {H H' H2 H2' : Heap} {fz fz' fz2 fz2' : List Nat} (h : Loc W H fz H' fz' H2 fz2 H2' fz2') (hW : ∀ b, W b ↔ W' b) : Loc W' H fz H' fz' H2 fz2 H2' fz2' :=
  ⟨fun b hb => h.keep b (fun hw => hb ((hW b).1 hw)), fun b hb => h.wr b ((hW b).2 hb), fun b hb => h.keep2 b (fun hw => hb ((hW b).1 hw))⟩
theorem put_tmps (s : St) (d : Option Nat) (v : AV) {H : Heap} {nx : Nat} {fz : List Nat} : ({ s with H := H, nx := nx, fz := fz }.put d v).tmps = (s.put d v).tmps := by cases d <;> rfl
theorem evalOp_loc (hnd : noDefer ao.ins = true) (h : evalOp E call none ao s = some (x, s')) (ht : ∀ t ∈ looksA ao, getT s2.tmps t = getT s.tmps t) (hnx : s2.nx = s.nx)
    (hs : ∀ b ∈ footOf E s ao.ins, sameAtB s.H s.fz s2.H s2.fz b) (hnew : ∀ b, s.nx ≤ b → b < s'.nx → sameAtB s.H s.fz s2.H s2.fz b) :
    ∃ s2', Same E call ao s x s' s2 s2' := by
  have hev := eval_looks (E := E) ht
  have hle := evalOp_nx h
  have hwn := wanted_looks ht
  have hfo : ∀ b, b ∈ wold E ao.ins (footOf E s ao.ins) s s' → sameAtB s.H s.fz s2.H s2.fz b := fun b hb => hs b (wold_foot hb)
  have fin : ∀ (f : FuncId) (args : List AV) (bk : Back), callA E call f args s.H s.nx s.fz = some bk → footOf E s ao.ins = args.flatMap (tch s.H (depthOf s.nx)) → s'.nx = bk.nx → s'.fz = bk.fz → s'.H = bk.H →
      (wold E ao.ins (footOf E s ao.ins) s s' = if byValue E f && s.fz.length == s'.fz.length then [] else footOf E s ao.ins) →
      ∃ b2, callA E call f args s2.H s2.nx s2.fz = some b2 ∧ b2.res = bk.res ∧ b2.nx = bk.nx ∧ Loc (fun b => b ∈ writesOf E ao.ins (footOf E s ao.ins) s s') s.H s.fz s'.H s'.fz s2.H s2.fz b2.H b2.fz := by
    intro f args bk hb h1 h2 h3 h4 h5
    obtain ⟨b2, k1, k2, k3, k4⟩ := callA_loc (H2 := s2.H) (fz2 := s2.fz) hb (by rw [← h1]; exact hs) (by rw [← h2]; exact hnew)
    refine ⟨b2, by rw [hnx]; exact k1, k2, k3, ?_⟩
    rw [h3, h4]
    refine k4.weaken fun b => ?_
    rw [mem_writes hle, h5, h1, h2, h3]
  simp only [evalOp] at h
  split at h
  · cases h
  · rename_i hw
    cases h
    obtain ⟨q1, q2, q3, q4, q5⟩ := put_fields s ao.dst undefA
    obtain ⟨p1, p2, p3, p4, p5⟩ := put_fields s2 ao.dst undefA
    refine ⟨s2.put ao.dst undefA, by simp only [evalOp, hwn, hw], by rw [p2, q2, hnx], ?_, fun _ => ⟨undefA, rfl, rfl⟩, fun hx => absurd rfl hx, q4, p4⟩
    rw [q1, q3, p1, p3]
    refine loc_refl.2 fun b hb => ?_
    rcases (mem_writes hle).1 hb with hb | hb
    · exact hfo b hb
    · exact hnew b hb.1 hb.2
  · rename_i hw
    rw [hw] at hwn
    split at h
    · rename_i f args hins
      have hargs : args.map (s2.eval E) = args.map (s.eval E) := List.map_congr_left fun y hy => hev y (by rw [hins]; exact hy)
      split at h
      · rename_i bk hb
        split at h
        · rename_i v hv
          cases h
          obtain ⟨q1, q2, q3, q4, q5⟩ := put_fields { s with H := bk.H, nx := bk.nx, fz := bk.fz } ao.dst v
          obtain ⟨b2, k1, k2, k3, k4⟩ := fin f _ bk hb (by rw [hins]; rfl) q2 q3 q1 (by rw [hins]; rfl)
          obtain ⟨p1, p2, p3, p4, p5⟩ := put_fields { s2 with H := b2.H, nx := b2.nx, fz := b2.fz } ao.dst v
          refine ⟨{ s2 with H := b2.H, nx := b2.nx, fz := b2.fz }.put ao.dst v, ?_, by rw [p2, q2]; exact k3, by rw [p1, p3]; exact k4, fun _ => ⟨v, put_tmps _ _ _, put_tmps _ _ _⟩, fun hx => absurd rfl hx, q4, p4⟩
          simp only [evalOp, hwn, hins, hargs, k1, k2, hv]
        · rename_i v hv
          cases h
          obtain ⟨b2, k1, k2, k3, k4⟩ := fin f _ bk hb (by rw [hins]; rfl) rfl rfl rfl (by rw [hins]; rfl)
          refine ⟨{ s2 with H := b2.H, nx := b2.nx, fz := b2.fz }, ?_, k3, k4, fun hx => by (cases hx), fun _ => ⟨rfl, rfl⟩, rfl, rfl⟩
          simp only [evalOp, hwn, hins, hargs, k1, k2, hv]
      · cases h
    · rename_i y args hins
      have hargs : args.map (s2.eval E) = args.map (s.eval E) := List.map_congr_left fun z hz => hev z (by rw [hins]; exact List.mem_cons_of_mem _ hz)
      have hy : s2.eval E y = s.eval E y := hev y (by rw [hins]; exact List.mem_cons_self)
      split at h
      · rename_i f first caps hfv
        split at h
        · rename_i bk hb
          split at h
          · rename_i v hv
            cases h
            obtain ⟨q1, q2, q3, q4, q5⟩ := put_fields { s with H := bk.H, nx := bk.nx, fz := bk.fz } ao.dst v
            obtain ⟨b2, k1, k2, k3, k4⟩ := fin f _ bk hb (by rw [hins]; simp only [footOf, hfv]) q2 q3 q1 (by rw [hins]; simp only [wold, hfv])
            obtain ⟨p1, p2, p3, p4, p5⟩ := put_fields { s2 with H := b2.H, nx := b2.nx, fz := b2.fz } ao.dst v
            refine ⟨{ s2 with H := b2.H, nx := b2.nx, fz := b2.fz }.put ao.dst v, ?_, by rw [p2, q2]; exact k3, by rw [p1, p3]; exact k4, fun _ => ⟨v, put_tmps _ _ _, put_tmps _ _ _⟩, fun hx => absurd rfl hx, q4, p4⟩
            simp only [evalOp, hwn, hins, hargs, hy, hfv, k1, k2, hv]
          · rename_i v hv
            cases h
            obtain ⟨b2, k1, k2, k3, k4⟩ := fin f _ bk hb (by rw [hins]; simp only [footOf, hfv]) rfl rfl rfl (by rw [hins]; simp only [wold, hfv])
            refine ⟨{ s2 with H := b2.H, nx := b2.nx, fz := b2.fz }, ?_, k3, k4, fun hx => by (cases hx), fun _ => ⟨rfl, rfl⟩, rfl, rfl⟩
            simp only [evalOp, hwn, hins, hargs, hy, hfv, k1, k2, hv]
        · cases h
      · cases h
    · rename_i y hins
      have hy : s2.eval E y = s.eval E y := hev y (by rw [hins]; exact List.mem_cons_self)
      split at h
      · rename_i t v hv
        cases h
        refine ⟨s2, by simp only [evalOp, hwn, hins, hy, hv], hnx, ?_, fun hx => by (cases hx), fun _ => ⟨rfl, rfl⟩, rfl, rfl⟩
        refine loc_refl.2 fun b hb => ?_
        rcases (mem_writes hle).1 hb with hb | hb
        · exact hfo b hb
        · exact hnew b hb.1 hb.2
      · cases h
    · rename_i y args hins
      rw [hins] at hnd
      cases hnd
    · cases h
    · rename_i hn1 hn2 hn3 hn4 hn5
      split at h
      · rename_i v H nx hevl
        cases h
        obtain ⟨q1, q2, q3, q4, q5⟩ := put_fields { s with H := H, nx := nx } ao.dst v
        have htop : footOf E s ao.ins = topsI (s.eval E) ao.ins := by
          cases hi : ao.ins
          case slice str sz x lo hi => cases str <;> rfl
          case len k x => rcases k with _ | _ | _ | k <;> rfl
          case conv k x => cases k <;> rfl
          all_goals first
            | rfl
            | exact absurd hi (hn1 _ _)
            | exact absurd hi (hn2 _ _)
        have hwt : wold E ao.ins (footOf E s ao.ins) s ({ s with H := H, nx := nx }.put ao.dst v) = wtops (s.eval E) ao.ins := by
          rw [htop]
          cases hi : ao.ins <;> first
            | rfl
            | exact absurd hi (hn1 _ _)
            | exact absurd hi (hn2 _ _)
        rw [q2] at hnew
        obtain ⟨H2', k1, k2⟩ := evalI_loc (H2 := s2.H) (fz2 := s2.fz) hevl (by rw [← htop]; exact hs) (fun hlt => (hnew s.nx (Nat.le_refl _) hlt).2)
        obtain ⟨p1, p2, p3, p4, p5⟩ := put_fields { s2 with H := H2', nx := nx } ao.dst v
        refine ⟨{ s2 with H := H2', nx := nx }.put ao.dst v, ?_, by rw [p2, q2], ?_, fun _ => ⟨v, put_tmps _ _ _, put_tmps _ _ _⟩, fun hx => absurd rfl hx, q4, p4⟩
        · have hk : evalI (s2.eval E) s2.fz s2.nx s2.H ao.ins = some (v, H2', nx) := by rw [evalI_congr hev, hnx]; exact k1
          simp only [evalOp, hwn]
          rw [hk]
        · rw [q1, q3, p1, p3]
          refine k2.weaken fun b => ?_
          rw [mem_writes hle, hwt, q2]
      · cases h
end
end Go.Am
end
section
namespace Go.Am
open Go
section
variable {P : Program} {E : Env} {call : CallT} {ops : Array Oper} {as : List AOp} {d : Draw}
theorem foldl_bits (acc : List Nat) (k : Nat) : ∀ (l : List Nat) (s : Nat), (l.foldl (fun s j => s ||| (2 ^ j ||| acc.getD j 0)) s).testBit k = true ↔ s.testBit k = true ∨ ∃ p ∈ l, k = p ∨ (acc.getD p 0).testBit k = true
  | [], s => by simp
  | p :: r, s => by
    rw [List.foldl_cons, foldl_bits acc k r]
    simp only [Nat.testBit_or, Nat.testBit_two_pow, Bool.or_eq_true, decide_eq_true_eq, List.mem_cons, exists_eq_or_imp]
    constructor
    · rintro ((h | h | h) | h)
      · exact .inl h
      · exact .inr (.inl (.inl h.symm))
      · exact .inr (.inl (.inr h))
      · exact .inr (.inr h)
    · rintro (h | (h | h) | h)
      · exact .inl (.inl h)
      · exact .inl (.inr (.inl h.symm))
      · exact .inl (.inr (.inr h))
      · exact .inr h
theorem befGo_pre : ∀ (l : List Oper) (acc : List Nat), ∃ m, befGo acc l = acc ++ m ∧ m.length = l.length
  | [], acc => ⟨[], by simp [befGo], rfl⟩
  | o :: r, acc => by
    obtain ⟨m, h1, h2⟩ := befGo_pre r (acc ++ [(predsOf o).foldl (fun s j => s ||| (2 ^ j ||| acc.getD j 0)) 0])
    exact ⟨_ :: m, by rw [befGo, h1, List.append_assoc]; rfl, by simp [h2]⟩
theorem getD_pre {acc m : List Nat} {p k : Nat} (h : (acc.getD p 0).testBit k = true) : ((acc ++ m).getD p 0).testBit k = true := by
  by_cases hp : p < acc.length
  · simp only [List.getD_eq_getElem?_getD, List.getElem?_append_left hp] at h ⊢; exact h
  · simp only [List.getD_eq_getElem?_getD, List.getElem?_eq_none (Nat.le_of_not_lt hp)] at h
    simp at h
theorem befGo_bit : ∀ (l : List Oper) (acc : List Nat) (i k : Nat) (o : Oper), l[i]? = some o → (((befGo acc l).getD (acc.length + i) 0).testBit k = true) → ∃ p ∈ predsOf o, k = p ∨ ((befGo acc l).getD p 0).testBit k = true
  | [], acc, i, k, o, h, _ => by simp at h
  | o' :: r, acc, i, k, o, h, hb => by
    have hstep : befGo acc (o' :: r) = befGo (acc ++ [(predsOf o').foldl (fun s j => s ||| (2 ^ j ||| acc.getD j 0)) 0]) r := rfl
    cases i with
    | zero =>
      simp at h
      subst h
      obtain ⟨m, h1, h2⟩ := befGo_pre r (acc ++ [(predsOf o').foldl (fun s j => s ||| (2 ^ j ||| acc.getD j 0)) 0])
      rw [hstep, h1] at hb ⊢
      have he : ((acc ++ [(predsOf o').foldl (fun s j => s ||| (2 ^ j ||| acc.getD j 0)) 0] ++ m).getD (acc.length + 0) 0) = (predsOf o').foldl (fun s j => s ||| (2 ^ j ||| acc.getD j 0)) 0 := by
        simp [List.getD_eq_getElem?_getD]
      rw [he, foldl_bits] at hb
      rcases hb with hb | ⟨p, hp, hk⟩
      · simp at hb
      · exact ⟨p, hp, hk.imp id fun h => by rw [List.append_assoc]; exact getD_pre h⟩
    | succ i =>
      rw [hstep] at hb ⊢
      have hl : (acc ++ [(predsOf o').foldl (fun s j => s ||| (2 ^ j ||| acc.getD j 0)) 0]).length + i = acc.length + (i + 1) := by simp; omega
      rw [← hl] at hb
      exact befGo_bit r _ i k o (by simpa using h) hb
theorem predsOk_spec : ∀ (l : List Oper) (i : Nat), predsOk i l = true → ∀ (k : Nat) (o : Oper), l[k]? = some o → ∀ p ∈ predsOf o, p < i + k
  | [], i, _, k, o, h => by simp at h
  | o' :: r, i, hp, k, o, h => by
    simp only [predsOk, Bool.and_eq_true] at hp
    cases k with
    | zero => simp at h; subst h; intro p hm; have := (List.all_eq_true.1 hp.1) p hm; simpa using this
    | succ k =>
      intro p hm
      have := predsOk_spec r (i + 1) hp.2 k o (by simpa using h) p hm
      omega
theorem mem_preds {o : Oper} {p : Nat} : p ∈ predsOf o ↔ ∃ e ∈ o.after, Region.binds .any e = true ∧ e.on = p := by
  unfold predsOf
  rw [List.mem_filterMap]
  constructor
  · rintro ⟨e, he, h⟩
    split at h
    · rename_i hb; cases h; exact ⟨e, by simpa using he, hb, rfl⟩
    · cases h
  · rintro ⟨e, he, hb, rfl⟩
    exact ⟨e, by simpa using he, by simp [hb]⟩
structure Drawn (ops : Array Oper) (as : List AOp) (d : Draw) (bef : List Nat) : Prop where
  lt : ∀ (i : Nat) (o : Oper), ops[i]? = some o → ∀ p ∈ predsOf o, p < i
  clo : ∀ (i : Nat) (o : Oper) (k : Nat), ops[i]? = some o → ((bef.getD i 0).testBit k = true) → ∃ p ∈ predsOf o, k = p ∨ ((bef.getD p 0).testBit k = true)
  nod : ∀ (i : Nat) (ao : AOp), as[i]? = some ao → noDefer ao.ins = true
  apart : ∀ (i j : Nat) (x y : AOp), i < j → as[i]? = some x → as[j]? = some y → (bef.getD j 0).testBit i = false → apartA x y = true
  pair : ∀ (i j : Nat) (x y : AOp), i < j → as[i]? = some x → as[j]? = some y → (bef.getD j 0).testBit i = false → quiet x.ins = false → quiet y.ins = false → (i, j) ∈ d.pairs
  free : ∀ (i j : Nat) (x : AOp), i ≠ j → as[i]? = some x → j < as.length → mayPanic x.ins = true → (bef.getD (max i j) 0).testBit (min i j) = false → j ∈ d.free.getD i []
theorem getD_some {l : List AOp} {i : Nat} {x : AOp} (h : l[i]? = some x) : l.getD i default = x := by simp [List.getD_eq_getElem?_getD, h]
theorem drawOf_spec (h : drawOf ops as = some d) : Drawn ops as d (befGo [] ops.toList) := by
  unfold drawOf at h
  simp only at h
  split at h
  case isFalse => cases h
  rename_i hc
  simp only [Bool.and_eq_true] at hc
  obtain ⟨⟨h1, h2⟩, h3⟩ := hc
  cases h
  have idx : ∀ {i : Nat} {x : AOp}, as[i]? = some x → i < as.length := fun h => (List.getElem?_eq_some_iff.1 h).1
  refine ⟨fun i o ho p hp => ?_, fun i o k ho hb => ?_, fun i ao ha => ?_, fun i j x y hij hx hy hb => ?_, fun i j x y hij hx hy hb hqx hqy => ?_, fun i j x hij hx hj hm hb => ?_⟩
  · have := predsOk_spec ops.toList 0 h1 i o (by simpa using ho) p hp
    omega
  · have := befGo_bit ops.toList [] i k o (by simpa using ho) (by simpa using hb)
    exact this
  · exact (List.all_eq_true.1 h2) ao (List.mem_of_getElem? ha)
  · have := (List.all_eq_true.1 h3) j (List.mem_range.2 (idx hy))
    have := (List.all_eq_true.1 this) i (List.mem_range.2 hij)
    rw [Bool.or_eq_true] at this
    rcases this with h | h
    · simp only [unord, Nat.max_eq_right (Nat.le_of_lt hij), Nat.min_eq_left (Nat.le_of_lt hij), hb, Bool.not_false, Bool.not_true] at h
      cases h
    · rwa [getD_some hx, getD_some hy] at h
  · simp only [List.mem_flatMap, List.mem_range, List.mem_filterMap]
    refine ⟨j, idx hy, i, hij, ?_⟩
    simp only [getD_some hx, getD_some hy, unord, Nat.max_eq_right (Nat.le_of_lt hij), Nat.min_eq_left (Nat.le_of_lt hij), hb, hqx, hqy, Bool.not_false, Bool.and_self, if_true]
  · have hi := idx hx
    rw [List.getD_eq_getElem?_getD, List.getElem?_map, List.getElem?_range hi]
    simp only [Option.map_some, Option.getD_some, getD_some hx, hm, if_true, List.mem_filter, List.mem_range, unord, hb, Bool.not_false, Bool.and_true, bne_iff_ne, ne_eq]
    exact ⟨hj, fun e => hij e.symm⟩
def StepR (E : Env) (call : CallT) (d : Draw) (p : Option (Nat × AV × St)) (j : Nat) (ao : AOp) (a b : St) (r : Rec) : Prop :=
  (r = recOf E ao a b ∧ newOk a b = true ∧ ((evalOp E call none ao a = some (.normal, b) ∧ ∀ q, p = some q → q.1 ≠ j) ∨ ∃ v, evalOp E call none ao a = some (.panic v, b) ∧ p = some (j, v, b))) ∨
  (r = ⟨false, [], []⟩ ∧ b = a ∧ ∃ k v t, p = some (k, v, t) ∧ k < j ∧ j ∉ d.free.getD k [])
theorem steps_trace : ∀ (l : List AOp) (i : Nat) (s : St) (p : Option (Nat × AV × St)) (acc : List Rec) (p' : Option (Nat × AV × St)) (s' : St) (rs : List Rec), evalSteps E call none d i l s p acc = some (p', s', rs) → (∀ q, p = some q → q.1 < i) →
    ∃ (sts : List St) (rcs : List Rec), sts.length = l.length + 1 ∧ rcs.length = l.length ∧ rs = acc.reverse ++ rcs ∧ sts[0]? = some s ∧ sts[l.length]? = some s' ∧
      (∀ k ao, l[k]? = some ao → ∃ a b r, sts[k]? = some a ∧ sts[k + 1]? = some b ∧ rcs[k]? = some r ∧ StepR E call d p' (i + k) ao a b r) ∧ (∀ q, p = some q → p' = some q) ∧ (p = none → ∀ q, p' = some q → i ≤ q.1 ∧ q.1 < i + l.length)
  | [], i, s, p, acc, p', s', rs, h, hp => by
    simp only [evalSteps] at h
    cases h
    exact ⟨[s], [], rfl, rfl, by simp, rfl, rfl, fun k ao hk => by simp at hk, fun q hq => hq, fun h0 q hq => by rw [h0] at hq; cases hq⟩
  | o :: r, i, s, p, acc, p', s', rs, h, hp => by
    have close : ∀ (s1 : St) (rc : Rec) (p1 : Option (Nat × AV × St)), evalSteps E call none d (i + 1) r s1 p1 (rc :: acc) = some (p', s', rs) → (∀ q, p1 = some q → q.1 < i + 1) → (∀ q, p = some q → p1 = some q) → ((∀ q, p1 = some q → p' = some q) → (p1 = none → ∀ q, p' = some q → i + 1 ≤ q.1) → StepR E call d p' i o s s1 rc) →
        (p = none → ∀ q, p1 = some q → q.1 = i) →
        ∃ (sts : List St) (rcs : List Rec), sts.length = (o :: r).length + 1 ∧ rcs.length = (o :: r).length ∧ rs = acc.reverse ++ rcs ∧ sts[0]? = some s ∧ sts[(o :: r).length]? = some s' ∧
          (∀ k ao, (o :: r)[k]? = some ao → ∃ a b r', sts[k]? = some a ∧ sts[k + 1]? = some b ∧ rcs[k]? = some r' ∧ StepR E call d p' (i + k) ao a b r') ∧ (∀ q, p = some q → p' = some q) ∧ (p = none → ∀ q, p' = some q → i ≤ q.1 ∧ q.1 < i + (o :: r).length) := by
      intro s1 rc p1 h1 h2 h3 h4 h5
      obtain ⟨sts, rcs, k1, k2, k3, k4, k5, k6, k7, k8⟩ := steps_trace r (i + 1) s1 p1 (rc :: acc) p' s' rs h1 h2
      have hst := h4 k7 (fun hn q hq => (k8 hn q hq).1)
      refine ⟨s :: sts, rc :: rcs, by simp [k1], by simp [k2], by rw [k3]; simp, rfl, by simpa using k5, ?_, fun q hq => k7 q (h3 q hq), fun hn q hq => ?_⟩
      · intro k ao hk
        cases k with
        | zero => simp at hk; subst hk; exact ⟨s, s1, rc, rfl, by simpa using k4, rfl, hst⟩
        | succ k =>
          obtain ⟨a, b, r', q1, q2, q3, q4⟩ := k6 k ao (by simpa using hk)
          exact ⟨a, b, r', by simpa using q1, by simpa using q2, by simpa using q3, by rwa [show i + (k + 1) = i + 1 + k by omega]⟩
      · cases hp1 : p1 with
        | none => have := k8 hp1 q hq; simp; omega
        | some q1 =>
          have hq1 := k7 q1 hp1
          rw [hq] at hq1
          cases hq1
          have := h5 hn q hp1
          simp; omega
    cases p with
    | none =>
      simp only [evalSteps] at h
      split at h
      · rename_i s1 h1
        split at h
        · rename_i hn
          exact close s1 _ none h (fun q hq => by cases hq) (fun q hq => by cases hq) (fun _ h8 => .inl ⟨rfl, hn, .inl ⟨h1, fun q hq => by have := h8 rfl q hq; omega⟩⟩) (fun _ q hq => by cases hq)
        · cases h
      · rename_i v s1 h1
        split at h
        · rename_i hn
          exact close s1 _ (some (i, v, s1)) h (fun q hq => by cases hq; exact Nat.lt_succ_self _) (fun q hq => by cases hq) (fun h7 _ => .inl ⟨rfl, hn, .inr ⟨v, h1, h7 _ rfl⟩⟩) (fun _ q hq => by cases hq; rfl)
        · cases h
      · cases h
    | some q =>
      obtain ⟨k, v, t⟩ := q
      have hk := hp _ rfl
      simp only [evalSteps] at h
      split at h
      · split at h
        · rename_i s1 h1
          split at h
          · rename_i hn
            exact close s1 _ (some (k, v, t)) h (fun q hq => by cases hq; simp at hk ⊢; omega) (fun q hq => hq) (fun h7 _ => .inl ⟨rfl, hn, .inl ⟨h1, fun q hq => by rw [h7 _ rfl] at hq; cases hq; simp at hk ⊢; omega⟩⟩) (fun hn => by cases hn)
          · cases h
        · cases h
      · rename_i hfr
        exact close s _ (some (k, v, t)) h (fun q hq => by cases hq; simp at hk ⊢; omega) (fun q hq => hq) (fun h7 _ => .inr ⟨rfl, rfl, k, v, t, h7 _ rfl, by simpa using hk, by simpa using hfr⟩) (fun hn => by cases hn)
end
end Go.Am
end
section
namespace Go.Am
open Go Go.RowKit
structure Run (P : Program) (E : Env) (call : CallT) (ops : Array Oper) (as : List AOp) (d : Draw) (bef : List Nat) (p : Option (Nat × AV × St)) (st : Nat → St) (rc : Nat → Rec) : Prop where
  map : ∀ (i : Nat) (ao : AOp), as[i]? = some ao → ∃ o, ops[i]? = some o ∧ compOp P E.gl ops o = some ao
  size : ops.size = as.length
  drawn : Drawn ops as d bef
  step : ∀ (i : Nat) (ao : AOp), as[i]? = some ao → StepR E call d p i ao (st i) (st (i + 1)) (rc i)
  off : ∀ i, as.length ≤ i → rc i = ⟨false, [], []⟩
  plt : ∀ q, p = some q → q.1 < as.length
  pair : ∀ i j, (i, j) ∈ d.pairs → apartR (rc i) (rc j) = true
def agree (wr : Nat → Prop) (D : Nat → Prop) (k : Nat) : Prop := ∀ j, wr j → (D j ↔ j < k)
def wrB (rc : Nat → Rec) (b j : Nat) : Prop := b ∈ (rc j).wr
def wrT (as : List AOp) (rc : Nat → Rec) (t j : Nat) : Prop := (rc j).done = true ∧ ∃ ao, as[j]? = some ao ∧ ao.dst = some t
section
variable {P : Program} {E : Env} {call : CallT} {ops : Array Oper} {as : List AOp} {d : Draw} {bef : List Nat} {p : Option (Nat × AV × St)} {st : Nat → St} {rc : Nat → Rec} {i j k m b t : Nat} {ao : AOp} {D : Nat → Prop}
theorem sameAtB.trans {H H2 H3 : Heap} {f f2 f3 : List Nat} (h : sameAtB H f H2 f2 b) (k : sameAtB H2 f2 H3 f3 b) : sameAtB H f H3 f3 b := ⟨k.1.trans h.1, k.2.trans h.2⟩
theorem sameAtB.symm {H H2 : Heap} {f f2 : List Nat} (h : sameAtB H f H2 f2 b) : sameAtB H2 f2 H f b := ⟨h.1.symm, h.2.symm⟩
theorem sameAtB.rfl {H : Heap} {f : List Nat} : sameAtB H f H f b := ⟨Eq.refl _, Eq.refl _⟩
theorem Run.done (R : Run P E call ops as d bef p st rc) (ha : as[i]? = some ao) (hd : (rc i).done = true) :
    rc i = recOf E ao (st i) (st (i + 1)) ∧ newOk (st i) (st (i + 1)) = true ∧ ∃ x, evalOp E call none ao (st i) = some (x, st (i + 1)) ∧ ((x = .normal ∧ ∀ q, p = some q → q.1 ≠ i) ∨ ∃ v, x = .panic v ∧ p = some (i, v, st (i + 1))) := by
  rcases R.step i ao ha with ⟨h1, h2, h3⟩ | ⟨h1, _⟩
  · refine ⟨h1, h2, ?_⟩
    rcases h3 with ⟨h3, h4⟩ | ⟨v, h3, h4⟩
    · exact ⟨_, h3, .inl ⟨rfl, h4⟩⟩
    · exact ⟨_, h3, .inr ⟨v, rfl, h4⟩⟩
  · rw [h1] at hd; cases hd
theorem Run.notdone (R : Run P E call ops as d bef p st rc) (ha : as[i]? = some ao) (hd : (rc i).done = false) : st (i + 1) = st i ∧ ∃ k v t, p = some (k, v, t) ∧ k < i ∧ i ∉ d.free.getD k [] := by
  rcases R.step i ao ha with ⟨h1, _⟩ | ⟨_, h2, h3⟩
  · rw [h1] at hd; cases hd
  · exact ⟨h2, h3⟩
theorem as_some (h : i < as.length) : ∃ ao, as[i]? = some ao := ⟨as[i], List.getElem?_eq_getElem h⟩
theorem Run.self (R : Run P E call ops as d bef p st rc) (ha : as[i]? = some ao) {x : Ex} (h : evalOp E call none ao (st i) = some (x, st (i + 1))) : Same E call ao (st i) x (st (i + 1)) (st i) (st (i + 1)) := by
  obtain ⟨s2', h2⟩ := evalOp_loc (s2 := st i) (R.drawn.nod i ao ha) h (fun _ _ => rfl) rfl (fun _ _ => sameAtB.rfl) (fun _ _ _ => sameAtB.rfl)
  have := h2.run
  rw [h] at this
  cases this
  exact h2
theorem Run.nx1 (R : Run P E call ops as d bef p st rc) (hi : i < as.length) : (st i).nx ≤ (st (i + 1)).nx := by
  obtain ⟨ao, ha⟩ := as_some hi
  cases hd : (rc i).done with
  | true => obtain ⟨_, _, x, h, _⟩ := R.done ha hd; exact evalOp_nx h
  | false => rw [(R.notdone ha hd).1]; exact Nat.le_refl _
theorem Run.nx (R : Run P E call ops as d bef p st rc) (h : k ≤ m) (hm : m ≤ as.length) : (st k).nx ≤ (st m).nx := by
  induction m with
  | zero => have : k = 0 := by omega
            subst this; exact Nat.le_refl _
  | succ m ih =>
    by_cases e : k = m + 1
    · subst e; exact Nat.le_refl _
    · exact Nat.le_trans (ih (by omega) (by omega)) (R.nx1 (by omega))
theorem Run.keep1 (R : Run P E call ops as d bef p st rc) (hi : i < as.length) (hb : b ∉ (rc i).wr) : sameAtB (st i).H (st i).fz (st (i + 1)).H (st (i + 1)).fz b := by
  obtain ⟨ao, ha⟩ := as_some hi
  cases hd : (rc i).done with
  | true =>
    obtain ⟨h1, _, x, h, _⟩ := R.done ha hd
    rw [h1] at hb
    exact (R.self ha h).loc.keep b hb
  | false => rw [(R.notdone ha hd).1]; exact sameAtB.rfl
theorem Run.keep (R : Run P E call ops as d bef p st rc) (h : k ≤ m) (hm : m ≤ as.length) (hb : ∀ j, k ≤ j → j < m → ¬ wrB rc b j) : sameAtB (st k).H (st k).fz (st m).H (st m).fz b := by
  induction m with
  | zero => have : k = 0 := by omega
            subst this; exact sameAtB.rfl
  | succ m ih =>
    by_cases e : k = m + 1
    · subst e; exact sameAtB.rfl
    · exact (ih (by omega) (by omega) fun j h1 h2 => hb j h1 (by omega)).trans (R.keep1 (by omega) (hb m (by omega) (by omega)))
theorem getT_put (s : St) (dst : Option Nat) (v : AV) (h : dst ≠ some t) : getT (s.put dst v).tmps t = getT s.tmps t := by
  cases dst with
  | none => rfl
  | some e =>
    show getT (s.tmps.set e v) t = _
    rw [getT_set, if_neg]
    rintro ⟨rfl, _⟩
    exact h rfl
theorem len_put (s : St) (dst : Option Nat) (v : AV) : (s.put dst v).tmps.length = s.tmps.length := by cases dst <;> simp [St.put]
theorem Run.tkeep1 (R : Run P E call ops as d bef p st rc) (hi : i < as.length) (hb : ¬ wrT as rc t i) : getT (st (i + 1)).tmps t = getT (st i).tmps t := by
  obtain ⟨ao, ha⟩ := as_some hi
  cases hd : (rc i).done with
  | true =>
    obtain ⟨h1, _, x, h, hx⟩ := R.done ha hd
    have hs := R.self ha h
    rcases hx with ⟨rfl, _⟩ | ⟨v, rfl, _⟩
    · obtain ⟨v, h2, _⟩ := hs.tmps rfl
      rw [h2, getT_put]
      exact fun e => hb ⟨hd, ao, ha, e⟩
    · rw [(hs.stay (fun h => by cases h)).1]
  | false => rw [(R.notdone ha hd).1]
theorem Run.tkeep (R : Run P E call ops as d bef p st rc) (h : k ≤ m) (hm : m ≤ as.length) (hb : ∀ j, k ≤ j → j < m → ¬ wrT as rc t j) : getT (st m).tmps t = getT (st k).tmps t := by
  induction m with
  | zero => have : k = 0 := by omega
            subst this; rfl
  | succ m ih =>
    by_cases e : k = m + 1
    · subst e; rfl
    · exact (R.tkeep1 (by omega) (hb m (by omega) (by omega))).trans (ih (by omega) (by omega) fun j h1 h2 => hb j h1 (by omega))
theorem Run.len (R : Run P E call ops as d bef p st rc) (hi : i ≤ as.length) : (st i).tmps.length = (st 0).tmps.length := by
  induction i with
  | zero => rfl
  | succ i ih =>
    obtain ⟨ao, ha⟩ := as_some (show i < as.length by omega)
    rw [← ih (by omega)]
    cases hd : (rc i).done with
    | true =>
      obtain ⟨h1, _, x, h, hx⟩ := R.done ha hd
      have hs := R.self ha h
      rcases hx with ⟨rfl, _⟩ | ⟨v, rfl, _⟩
      · obtain ⟨v, h2, _⟩ := hs.tmps rfl
        rw [h2, len_put]
      · rw [(hs.stay (fun h => by cases h)).1]
    | false => rw [(R.notdone ha hd).1]
theorem Run.defers (R : Run P E call ops as d bef p st rc) (hi : i ≤ as.length) : (st i).defers = (st 0).defers := by
  induction i with
  | zero => rfl
  | succ i ih =>
    obtain ⟨ao, ha⟩ := as_some (show i < as.length by omega)
    rw [← ih (by omega)]
    cases hd : (rc i).done with
    | true => obtain ⟨h1, _, x, h, hx⟩ := R.done ha hd; exact (R.self ha h).defers
    | false => rw [(R.notdone ha hd).1]
theorem quiet_foot {s s' : St} {x : Ex} (hnd : noDefer ao.ins = true) (hq : quiet ao.ins = true) (h : evalOp E call none ao s = some (x, s')) : footOf E s ao.ins = [] ∧ writesOf E ao.ins (footOf E s ao.ins) s s' = [] := by
  have hf : footOf E s ao.ins = [] := by
    cases hi : ao.ins <;> rw [hi] at hq <;> first
      | rfl
      | (cases hq; done)
      | skip
    case slice str sz x lo hi => cases str <;> first | rfl | (cases hq; done)
    case len k x => rcases k with _ | _ | _ | k <;> first | rfl | (cases hq; done)
    case conv k x => cases k <;> first | rfl | (cases hq; done)
  refine ⟨hf, ?_⟩
  have hnx : s'.nx = s.nx := by
    simp only [evalOp] at h
    split at h
    · cases h
    · cases h; exact (put_fields _ _ _).2.1
    · split at h
      · rename_i hi; rw [hi] at hq; cases hq
      · rename_i hi; rw [hi] at hq; cases hq
      · split at h
        · cases h; rfl
        · cases h
      · rename_i hi; rw [hi] at hnd; cases hnd
      · cases h
      · split at h
        · rename_i v H nx hev
          cases h
          rw [(put_fields _ _ _).2.1]
          show nx = s.nx
          by_cases hr : reads ao.ins = true
          · exact (evalI_reads (fz2 := s.fz) (H2 := s.H) hr hev fun _ _ => rfl).2.1
          · exfalso
            cases hi : ao.ins <;> rw [hi] at hq hr <;> first
              | exact hr rfl
              | (cases hq; done)
              | (rw [hi] at hev; simp only [evalI] at hev; cases hev; done)
              | (rw [hi] at hnd; cases hnd; done)
        · cases h
  have hw : ∀ b, b ∉ writesOf E ao.ins (footOf E s ao.ins) s s' := fun b hb => by
    rcases (mem_writes (by omega)).1 hb with h1 | h1
    · have := wold_foot h1; rw [hf] at this; cases this
    · omega
  exact List.eq_nil_iff_forall_not_mem.2 hw
theorem disjoint_mem {x y : List Nat} (h : disjointB x y = true) (hb : b ∈ x) : b ∉ y := fun h2 => by
  have := (List.all_eq_true.1 h) b hb
  simp at this
  exact this h2
theorem Run.apart (R : Run P E call ops as d bef p st rc) (hi : i < as.length) (hj : j < as.length) (hij : i ≠ j) (hu : (bef.getD (max i j) 0).testBit (min i j) = false) : b ∈ (rc i).wr → b ∉ (rc j).foot ∧ b ∉ (rc j).wr := by
  intro hb
  obtain ⟨x, hx⟩ := as_some hi
  obtain ⟨y, hy⟩ := as_some hj
  have nil : ∀ {k : Nat} {z : AOp}, as[k]? = some z → ((rc k).done = false ∨ quiet z.ins = true) → (rc k).wr = [] ∧ (rc k).foot = [] := by
    intro k z hz h
    cases hd : (rc k).done with
    | false =>
      rcases R.step k z hz with ⟨h1, _⟩ | ⟨h1, _⟩
      · rw [h1] at hd; cases hd
      · rw [h1]; exact ⟨rfl, rfl⟩
    | true =>
      rcases h with h | h
      · rw [hd] at h; cases h
      · obtain ⟨h1, _, x, h2, _⟩ := R.done hz hd
        obtain ⟨h3, h4⟩ := quiet_foot (R.drawn.nod k z hz) h h2
        rw [h1]
        exact ⟨h4, h3⟩
  cases hqx : quiet x.ins with
  | true => rw [(nil hx (.inr hqx)).1] at hb; cases hb
  | false =>
    cases hqy : quiet y.ins with
    | true => rw [(nil hy (.inr hqy)).1, (nil hy (.inr hqy)).2]; exact ⟨by simp, by simp⟩
    | false =>
      rcases Nat.lt_or_gt_of_ne hij with h | h
      · have hp := R.pair i j (R.drawn.pair i j x y h hx hy (by rwa [Nat.max_eq_right (Nat.le_of_lt h), Nat.min_eq_left (Nat.le_of_lt h)] at hu) hqx hqy)
        simp only [apartR, Bool.and_eq_true] at hp
        exact ⟨disjoint_mem hp.1.1 hb, disjoint_mem hp.1.2 hb⟩
      · have hp := R.pair j i (R.drawn.pair j i y x h hy hx (by rwa [Nat.max_eq_left (Nat.le_of_lt h), Nat.min_eq_right (Nat.le_of_lt h)] at hu) hqy hqx)
        simp only [apartR, Bool.and_eq_true] at hp
        exact ⟨fun h2 => disjoint_mem hp.2 h2 hb, fun h2 => disjoint_mem hp.1.2 h2 hb⟩
theorem apartA_spec {x y : AOp} (h : apartA x y = true) : (∀ t, x.dst = some t → t ∉ looksA y ∧ y.dst ≠ some t) ∧ (∀ t, y.dst = some t → t ∉ looksA x) := by
  simp only [apartA, Bool.and_eq_true] at h
  refine ⟨fun t ht => ?_, fun t ht => ?_⟩
  · have := h.1
    rw [ht] at this
    simp at this
    exact this
  · have := h.2
    rw [ht] at this
    simpa using this
theorem Run.apartT (R : Run P E call ops as d bef p st rc) {x y : AOp} (hx : as[i]? = some x) (hy : as[j]? = some y) (hij : i ≠ j) (hu : (bef.getD (max i j) 0).testBit (min i j) = false) (ht : x.dst = some t) : t ∉ looksA y ∧ y.dst ≠ some t := by
  rcases Nat.lt_or_gt_of_ne hij with h | h
  · exact (apartA_spec (R.drawn.apart i j x y h hx hy (by rwa [Nat.max_eq_right (Nat.le_of_lt h), Nat.min_eq_left (Nat.le_of_lt h)] at hu))).1 t ht
  · have := apartA_spec (R.drawn.apart j i y x h hy hx (by rwa [Nat.max_eq_left (Nat.le_of_lt h), Nat.min_eq_right (Nat.le_of_lt h)] at hu))
    exact ⟨this.2 t ht, fun h2 => (this.1 t h2).2 ht⟩
def Closed (ops : Array Oper) (D : Nat → Prop) : Prop := ∀ i, D i → ∀ o, ops[i]? = some o → ∀ p ∈ predsOf o, D p
structure Next (ops : Array Oper) (D : Nat → Prop) (i : Nat) : Prop where
  new : ¬ D i
  pre : ∀ o, ops[i]? = some o → ∀ p ∈ predsOf o, D p
theorem bit_lt (hd : Drawn ops as d bef) : ∀ (i : Nat) (k : Nat), i < ops.size → (bef.getD i 0).testBit k = true → k < i := by
  intro i
  induction i using Nat.strongRecOn with
  | _ i ih =>
    intro k hi hb
    have ho : ops[i]? = some ops[i] := Array.getElem?_eq_getElem hi
    obtain ⟨p, hp, h⟩ := hd.clo i _ k ho hb
    have hlt := hd.lt i _ ho p hp
    rcases h with h | h
    · omega
    · have := ih p hlt k (by omega) h
      omega
theorem Closed.bit (hc : Closed ops D) (hd : Drawn ops as d bef) : ∀ (i : Nat) (k : Nat), i < ops.size → D i → (bef.getD i 0).testBit k = true → D k := by
  intro i
  induction i using Nat.strongRecOn with
  | _ i ih =>
    intro k hi hD hb
    have ho : ops[i]? = some ops[i] := Array.getElem?_eq_getElem hi
    obtain ⟨p, hp, h⟩ := hd.clo i _ k ho hb
    have hlt := hd.lt i _ ho p hp
    have hDp := hc i hD _ ho p hp
    rcases h with h | h
    · subst h; exact hDp
    · exact ih p hlt k (by omega) hDp h
theorem Next.bit (hn : Next ops D i) (hc : Closed ops D) (hd : Drawn ops as d bef) (hi : i < ops.size) (hb : (bef.getD i 0).testBit k = true) : D k := by
  have ho : ops[i]? = some ops[i] := Array.getElem?_eq_getElem hi
  obtain ⟨p, hp, h⟩ := hd.clo i _ k ho hb
  have hlt := hd.lt i _ ho p hp
  have hDp := hn.pre _ ho p hp
  rcases h with h | h
  · subst h; exact hDp
  · exact hc.bit hd p k (by omega) hDp h
theorem Next.unord (hn : Next ops D i) (hc : Closed ops D) (hd : Drawn ops as d bef) (hi : i < ops.size) (hj : j < ops.size) (hij : j ≠ i) (h : ¬ (D j ↔ j < i)) : (bef.getD (max j i) 0).testBit (min j i) = false := by
  rcases Nat.lt_or_gt_of_ne hij with hlt | hlt
  · rw [Nat.max_eq_right (Nat.le_of_lt hlt), Nat.min_eq_left (Nat.le_of_lt hlt)]
    cases hb : (bef.getD i 0).testBit j with
    | false => rfl
    | true => exact absurd ⟨fun _ => hlt, fun _ => hn.bit hc hd hi hb⟩ h
  · rw [Nat.max_eq_left (Nat.le_of_lt hlt), Nat.min_eq_right (Nat.le_of_lt hlt)]
    cases hb : (bef.getD j 0).testBit i with
    | false => rfl
    | true => exact absurd ⟨fun hD => absurd (hc.bit hd j i hj hD hb) hn.new, fun h2 => by omega⟩ h
end
end Go.Am
end
