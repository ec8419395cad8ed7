/- Parts of the proof. -/
import Derived.Test.YtjilaaoaebglbaaGreatDoorA11
set_option linter.unusedVariables false
set_option linter.unusedSimpArgs false
set_option linter.unnecessarySimpa false
set_option linter.unusedSectionVars false
section
namespace Go.Am
open Go Go.RowKit
section
variable {P : Program} {B : Nat} {wr : Nat → Prop} {β β' β'' : Nat → Option Nat} {S S' S'' : Nat → Prop} {fz fz' fz'' fz2 : List Nat} {H H' H'' H2 : Heap} {nx nx' nx'' m m' : Nat} {w w' w'' : World}
theorem Step.within (h : Step P B (domB H) β S H nx w β' S' fz' H' nx'' w') (k : Step P B (domB H') β' S' H' m w' β'' S'' fz'' H'' m' w'') (hf : fresh β nx nx'') (hm : nx ≤ m) (hm' : m' ≤ nx'') : Step P B (domB H) β S H nx w β'' S'' fz'' H'' nx'' w'' := by
  have hle := h.grow.1
  have kle := k.grow.1
  have hsz := h.below.size
  have key : ∀ b c, domB H' b → β' b = some c → w.heap.size ≤ c ∨ ∃ b0, domB H b0 ∧ β b0 = some c := by
    intro b c h1 h2
    rcases h.grow.back h2 with h3 | h3
    · rcases h.dom b h1 with h4 | ⟨h4, h5⟩
      · exact .inr ⟨b, h4, h3⟩
      · rw [hf b h4 h5] at h3; cases h3
    · exact h3
  refine ⟨h.ext.trans k.ext, k.inv, h.below.trans k.below, ⟨hle, fun b => ?_⟩, fun c hc hb => ?_, fun c hc => ?_, fun b hb => ?_⟩
  · rcases k.grow.2 b with h1 | ⟨h1, h2, c, h3, h4⟩
    · rcases h.grow.2 b with h5 | ⟨h5, h6, c, h7, h8⟩
      · exact .inl (h1.trans h5)
      · exact .inr ⟨h5, h6, c, h1.trans h7, h8⟩
    · refine .inr ⟨by omega, by omega, c, h3, ?_⟩
      rcases h4 with h4 | ⟨b0, h4, h5⟩
      · exact .inl (by omega)
      · exact key b0 c h4 h5
  · rw [k.frame c (by omega) fun b h1 h2 => ?_, h.frame c hc hb]
    rcases key b c h1 h2 with h3 | ⟨b0, h3, h4⟩
    · omega
    · exact hb b0 h3 h4
  · rcases k.snew c hc with h1 | h1 | ⟨b, h1, h2⟩
    · exact h.snew c h1
    · exact .inr (.inl (by omega))
    · exact .inr (key b c h1 h2)
  · rcases k.dom b hb with h1 | ⟨h1, h2⟩
    · exact h.dom b h1
    · exact .inr ⟨by omega, by omega⟩
theorem Step.less (h : Step P B wr β S H nx w β' S' fz' H' nx' w') (hs : ∀ b blk, getB H2 b = some blk → getB H' b = some blk) (hz : ∀ b, (getB H2 b).isSome → fz2.contains b = fz'.contains b) (hz2 : ∀ b, fz2.contains b = true → fz'.contains b = true) : Step P B wr β S H nx w β' S' fz2 H2 nx' w' := by
  refine ⟨h.ext, inv_less h.inv hs hz hz2, h.below, h.grow, h.frame, h.snew, fun b hb => h.dom b ?_⟩
  obtain ⟨x, hx⟩ := Option.isSome_iff_exists.1 hb
  rw [hs b x hx]; rfl
theorem inv_heap (hI : Inv P B β S fz H w) (hw : w'.heap = w.heap) : Inv P B β S fz H w' := by
  have hE : Ext β S w β S w' := ⟨fun _ _ h => h, fun _ h => h, fun c _ => by rw [hw], fun c x h => by simpa only [World.shape?, hw] using h⟩
  exact ⟨fun b c x h1 h2 => (hI.rb b c x h1 h2).ext hE (by rw [hw]), hI.sep, hI.fzS, hI.inj, fun c h => by rw [hw]; exact hI.S_lt c h, fun b c h => by rw [hw]; exact hI.β_lt b c h, hI.fzd, by rw [hw]; exact hI.B_le⟩
end
section
variable {P : Program} {E : Env} {call : CallT} {ops : Array Oper} {as : List AOp} {d : Draw} {bef : List Nat} {p : Option (Nat × AV × St)} {st : Nat → St} {rc : Nat → Rec} {i j k m b t : Nat} {ao : AOp} {s s' : St} {v : AV}
theorem mayPanic_of (h : evalOp E call none ao s = some (.panic v, s')) : mayPanic ao.ins = true := by
  simp only [evalOp] at h
  split at h
  · cases h
  · cases h
  · split at h
    · rename_i hi; rw [hi]; rfl
    · rename_i hi; rw [hi]; rfl
    · rename_i hi; rw [hi]; rfl
    · split at h <;> cases h
    · cases h
    · split at h <;> cases h
def gone (listed : Array Bool) (j : Nat) : Prop := listed.getD j false = true
theorem gone_lt {listed : Array Bool} (h : gone listed j) : j < listed.size := by
  unfold gone at h
  rcases Nat.lt_or_ge j listed.size with h' | h'
  · exact h'
  · simp [Array.getElem?_eq_none h'] at h
theorem gone_set {listed : Array Bool} (hi : i < listed.size) : gone (listed.setIfInBounds i true) j ↔ gone listed j ∨ j = i := by
  unfold gone
  by_cases e : i = j
  · subst e; simp [hi]
  · rw [getD_set_ne false e]
    constructor
    · exact .inl
    · rintro (h | rfl)
      · exact h
      · exact absurd rfl e
structure Mid (P : Program) (E : Env) (ops : Array Oper) (as : List AOp) (p : Option (Nat × AV × St)) (st : Nat → St) (rc : Nat → Rec) (B : Nat) (β0 : Nat → Option Nat) (S0 : Nat → Prop) (w0 : World)
    (listed : Array Bool) (β : Nat → Option Nat) (S : Nat → Prop) (s : St) (a : Act) (w : World) : Prop where
  size : listed.size = ops.size
  fr : Fr P E B β S s a w
  step : Step P B (domB (st 0).H) β0 S0 (st 0).H (st 0).nx w0 β S s.fz s.H (st as.length).nx w
  clo : Closed ops (gone listed)
  fresh : ∀ i, i < as.length → ¬ gone listed i → fresh β (st i).nx (st (i + 1)).nx
  blk : ∀ b k, k ≤ as.length → agree (wrB rc b) (gone listed) k → sameAtB (st k).H (st k).fz s.H s.fz b
  tmp : ∀ t k, k ≤ as.length → agree (wrT as rc t) (gone listed) k → getT s.tmps t = getT (st k).tmps t
  defers : s.defers = (st 0).defers
  len : s.tmps.length = (st 0).tmps.length
  pan : ∀ q, p = some q → ¬ gone listed q.1
section
variable {B : Nat} {β0 β : Nat → Option Nat} {S0 S : Nat → Prop} {w0 w : World} {listed : Array Bool} {a : Act}
theorem Run.panics (R : Run P E call ops as d bef p st rc) {q : Nat × AV × St} (hp : p = some q) : ∃ ao, as[q.1]? = some ao ∧ evalOp E call none ao (st q.1) = some (.panic q.2.1, st (q.1 + 1)) ∧ q.2.2 = st (q.1 + 1) := by
  obtain ⟨q1, q2, q3⟩ := q
  obtain ⟨ao, ha⟩ := as_some (R.plt _ hp)
  refine ⟨ao, ha, ?_⟩
  rcases R.step q1 ao ha with ⟨_, _, h⟩ | ⟨_, _, k, v, t, h, hk, _⟩
  · rcases h with ⟨_, h⟩ | ⟨v, h1, h2⟩
    · exact absurd rfl (h _ hp)
    · rw [hp] at h2
      cases h2
      exact ⟨h1, rfl⟩
  · rw [hp] at h; cases h; omega
theorem Mid.done (R : Run P E call ops as d bef p st rc) (M : Mid P E ops as p st rc B β0 S0 w0 listed β S s a w) (hn : Next ops (gone listed) i) (hi : i < as.length) : (rc i).done = true := by
  obtain ⟨ao, ha⟩ := as_some hi
  cases hd : (rc i).done with
  | true => rfl
  | false =>
    exfalso
    obtain ⟨_, k, v, t, hp, hk, hfr⟩ := R.notdone ha hd
    obtain ⟨ak, hak, hev, _⟩ := R.panics hp
    have hm := mayPanic_of hev
    cases hb : (bef.getD i 0).testBit k with
    | true => exact M.pan _ hp (hn.bit M.clo R.drawn (by rw [R.size]; exact hi) hb)
    | false =>
      refine hfr (R.drawn.free k i ak (by omega) hak hi hm ?_)
      rw [Nat.max_eq_right (by omega), Nat.min_eq_left (by omega)]
      exact hb
theorem wrB_lt (R : Run P E call ops as d bef p st rc) (h : wrB rc b j) : j < as.length := by
  rcases Nat.lt_or_ge j as.length with h' | h'
  · exact h'
  · unfold wrB at h; rw [R.off j h'] at h; cases h
theorem Mid.agreeB (R : Run P E call ops as d bef p st rc) (M : Mid P E ops as p st rc B β0 S0 w0 listed β S s a w) (hn : Next ops (gone listed) i) (hi : i < as.length) (hb : b ∈ (rc i).foot ∨ b ∈ (rc i).wr) : agree (wrB rc b) (gone listed) i := by
  intro j hj
  by_cases e : j = i
  · subst e; exact ⟨fun h => absurd h hn.new, fun h => by omega⟩
  · have hjl := wrB_lt R hj
    refine Classical.byContradiction fun hne => ?_
    have hu := hn.unord M.clo R.drawn (by rw [R.size]; exact hi) (by rw [R.size]; exact hjl) e hne
    have := R.apart hjl hi e hu hj
    rcases hb with hb | hb
    · exact this.1 hb
    · exact this.2 hb
theorem Mid.agreeT (R : Run P E call ops as d bef p st rc) (M : Mid P E ops as p st rc B β0 S0 w0 listed β S s a w) (hn : Next ops (gone listed) i) (ha : as[i]? = some ao) (ht : t ∈ looksA ao ∨ ao.dst = some t) : agree (wrT as rc t) (gone listed) i := by
  have hi : i < as.length := (List.getElem?_eq_some_iff.1 ha).1
  rintro j ⟨_, y, hy, hj⟩
  by_cases e : j = i
  · subst e; exact ⟨fun h => absurd h hn.new, fun h => by omega⟩
  · have hjl : j < as.length := (List.getElem?_eq_some_iff.1 hy).1
    refine Classical.byContradiction fun hne => ?_
    have hu := hn.unord M.clo R.drawn (by rw [R.size]; exact hi) (by rw [R.size]; exact hjl) e hne
    have := R.apartT hy ha e hu hj
    rcases ht with ht | ht
    · exact this.1 ht
    · exact this.2 ht
theorem getT_len {l l' : List AV} (h : l.length = l'.length) (v : AV) (t : Nat) (hg : getT l t = getT l' t) : getT (l.set t v) t = getT (l'.set t v) t := by
  rw [getT_set, getT_set, h, hg]
theorem Mid.here (R : Run P E call ops as d bef p st rc) (M : Mid P E ops as p st rc B β0 S0 w0 listed β S s a w) (hn : Next ops (gone listed) i) (ha : as[i]? = some ao) :
    ∃ x s2', evalOp E call none ao (st i) = some (x, st (i + 1)) ∧ Same E call ao (st i) x (st (i + 1)) { s with nx := (st i).nx } s2' ∧ rc i = recOf E ao (st i) (st (i + 1)) := by
  have hi : i < as.length := (List.getElem?_eq_some_iff.1 ha).1
  obtain ⟨h1, _, x, h2, _⟩ := R.done ha (M.done R hn hi)
  obtain ⟨s2', h3⟩ := evalOp_loc (s2 := { s with nx := (st i).nx }) (R.drawn.nod i ao ha) h2 (fun t ht => M.tmp t i (by omega) (M.agreeT R hn ha (.inl ht))) rfl
    (fun b hb => M.blk b i (by omega) (M.agreeB R hn hi (.inl (by rw [h1]; exact hb)))) (fun b hb1 hb2 => M.blk b i (by omega) (M.agreeB R hn hi (.inr (by rw [h1]; exact (mem_writes (evalOp_nx h2)).2 (.inr ⟨hb1, hb2⟩)))))
  exact ⟨x, s2', h2, h3, h1⟩
theorem Mid.go (R : Run P E call ops as d bef p st rc) (M : Mid P E ops as p st rc B β0 S0 w0 listed β S s a w) (hn : Next ops (gone listed) i) (ha : as[i]? = some ao) {s2' : St} (hev : evalOp E call none ao (st i) = some (.normal, st (i + 1)))
    (hS : Same E call ao (st i) .normal (st (i + 1)) { s with nx := (st i).nx } s2') (hrc : rc i = recOf E ao (st i) (st (i + 1))) (hf : Go.Am.fresh β0 (st 0).nx (st as.length).nx) {β' : Nat → Option Nat} {S' : Nat → Prop} {a' : Act} {w' : World}
    (hst : Step P B (domB s.H) β S s.H (st i).nx w β' S' s2'.fz s2'.H s2'.nx w') (hF : Fr P E B β' S' s2' a' w') : Mid P E ops as p st rc B β0 S0 w0 (listed.setIfInBounds i true) β' S' s2' a' w' := by
  have hi : i < as.length := (List.getElem?_eq_some_iff.1 ha).1
  have hil : i < listed.size := by rw [M.size, R.size]; exact hi
  have hg : ∀ j, gone (listed.setIfInBounds i true) j ↔ gone listed j ∨ j = i := fun j => gone_set hil
  have hnx1 := R.nx (k := 0) (m := i) (by omega) (by omega)
  have hnx2 := R.nx (k := i + 1) (m := as.length) (by omega) (by omega)
  have hdone := M.done R hn hi
  have hnx3 : s2'.nx = (st (i + 1)).nx := hS.nx
  refine ⟨by simpa using M.size, hF, M.step.within hst hf hnx1 (by rw [hnx3]; exact hnx2), ?_, ?_, ?_, ?_, ?_, ?_, ?_⟩
  · intro j hj o ho q hq
    rw [hg] at hj ⊢
    rcases hj with hj | rfl
    · exact .inl (M.clo j hj o ho q hq)
    · exact .inl (hn.pre o ho q hq)
  · intro j hj hnj b hb1 hb2
    rw [hg] at hnj
    have hne : j ≠ i := fun e => hnj (.inr e)
    rw [hst.grow.old, M.fresh j hj (fun h => hnj (.inl h)) b hb1 hb2]
    rw [hnx3]
    rcases Nat.lt_or_gt_of_ne hne with h | h
    · have := R.nx (k := j + 1) (m := i) (by omega) (by omega); omega
    · have := R.nx (k := i + 1) (m := j) (by omega) (by omega); omega
  · intro b k hk hag
    by_cases hb : b ∈ (rc i).wr
    · have hik : i < k := (hag i hb).1 ((hg i).2 (.inr rfl))
      have h1 : sameAtB (st (i + 1)).H (st (i + 1)).fz s2'.H s2'.fz b := hS.loc.wr b (by rw [hrc] at hb; exact hb)
      refine (R.keep (by omega) hk fun j hj1 hj2 hj3 => ?_).symm.trans h1
      have hDj := (hag j hj3).2 hj2
      rw [hg] at hDj
      have hDj' : gone listed j := hDj.resolve_right (by omega)
      have hag' := M.agreeB R hn hi (.inr hb) j hj3
      have := hag'.1 hDj'
      omega
    · have h1 : sameAtB s.H s.fz s2'.H s2'.fz b := hS.loc.keep2 b (by rw [hrc] at hb; exact hb)
      refine (M.blk b k hk fun j hj => ?_).trans h1
      have hne : j ≠ i := fun e => hb (e ▸ hj)
      rw [← hag j hj, hg]
      exact ⟨.inl, fun h => h.resolve_right hne⟩
  · intro t k hk hag
    obtain ⟨v, hv1, hv2⟩ := hS.tmps rfl
    by_cases ht : ao.dst = some t
    · have hw : wrT as rc t i := ⟨hdone, ao, ha, ht⟩
      have hik : i < k := (hag i hw).1 ((hg i).2 (.inr rfl))
      rw [R.tkeep (k := i + 1) (m := k) (by omega) hk fun j hj1 hj2 hj3 => ?_, hv1, hv2, ht]
      · exact getT_len (by rw [R.len (i := i) (by omega)]; exact M.len) v t (M.tmp t i (by omega) (M.agreeT R hn ha (.inr ht)))
      · have hDj := (hag j hj3).2 hj2
        rw [hg] at hDj
        have hDj' : gone listed j := hDj.resolve_right (by omega)
        have hag' := M.agreeT R hn ha (.inr ht) j hj3
        have := hag'.1 hDj'
        omega
    · rw [hv2, getT_put _ _ _ ht]
      refine M.tmp t k hk fun j hj => ?_
      have hne : j ≠ i := by
        rintro rfl
        obtain ⟨_, y, hy, hyt⟩ := hj
        rw [ha] at hy
        cases hy
        exact ht hyt
      rw [← hag j hj, hg]
      exact ⟨.inl, fun h => h.resolve_right hne⟩
  · rw [hS.defers2]; exact M.defers
  · obtain ⟨v, hv1, hv2⟩ := hS.tmps rfl
    rw [hv2, len_put]; exact M.len
  · intro q hq hgq
    rw [hg] at hgq
    rcases hgq with h | h
    · exact M.pan q hq h
    · obtain ⟨ak, hak, hek, _⟩ := R.panics hq
      rw [h, ha] at hak
      cases hak
      rw [h, hev] at hek
      cases hek
end
end
end Go.Am
end
section
namespace Go.Am
open Go Go.RowKit
section
variable {P : Program} {E : Env} {call : CallT} {ops : Array Oper} {as : List AOp} {d : Draw} {bef : List Nat} {p : Option (Nat × AV × St)} {st : Nat → St} {rc : Nat → Rec} {i j k m b t : Nat} {ao : AOp} {s s' : St} {v : AV}
variable {B : Nat} {β0 β : Nat → Option Nat} {S0 S : Nat → Prop} {w0 w : World} {listed : Array Bool} {a : Act}
def leftOf (listed : Array Bool) : Nat := listed.toList.count false
theorem leftOf_set (hi : i < listed.size) (hn : ¬ gone listed i) : leftOf (listed.setIfInBounds i true) + 1 = leftOf listed := by
  have hf : listed.toList[i]'(by simpa using hi) = false := by
    unfold gone at hn
    simpa [hi] using hn
  unfold leftOf
  rw [Array.toList_setIfInBounds, List.count_set (by simpa using hi), hf]
  have : 0 < listed.toList.count false := List.count_pos_iff.2 (hf ▸ List.getElem_mem _)
  show listed.toList.count false - 1 + 0 + 1 = listed.toList.count false
  omega
theorem next_of_ready (h : i ∈ Region.ready .any ops listed) (hs : listed.size = ops.size) : i < ops.size ∧ Next ops (gone listed) i := by
  obtain ⟨h0, o, ho, hall⟩ := mem_ready.1 h
  have hi := (Array.getElem?_eq_some_iff.1 ho).1
  refine ⟨hi, ?_, fun o' ho' q hq => ?_⟩
  · unfold gone
    have : i < listed.size := by omega
    simp [this] at h0 ⊢
    exact h0
  · rw [ho] at ho'
    cases ho'
    obtain ⟨e, he, hb, rfl⟩ := mem_preds.1 hq
    exact hall e he hb
theorem all_gone (h : Region.ready .any ops listed = []) (hs : listed.size = ops.size) (hd : Drawn ops as d bef) : ∀ i, i < ops.size → gone listed i := by
  intro i
  induction i using Nat.strongRecOn with
  | _ i ih =>
    intro hi
    refine Classical.byContradiction fun hn => ?_
    have : i ∈ Region.ready .any ops listed := by
      have ho : ops[i]? = some ops[i] := Array.getElem?_eq_getElem hi
      refine mem_ready.2 ⟨?_, _, ho, fun e he hb => ?_⟩
      · unfold gone at hn
        have : i < listed.size := by omega
        simp [this] at hn ⊢
        exact hn
      · have := hd.lt i _ ho e.on (mem_preds.2 ⟨e, he, hb, rfl⟩)
        exact ih e.on this (by omega)
    rw [h] at this
    cases this
theorem gone_of_left (h : leftOf listed = 0) (hi : i < listed.size) : gone listed i := by
  refine Classical.byContradiction fun hn => ?_
  have := leftOf_set hi hn
  omega
theorem fr_same {β : Nat → Option Nat} {S : Nat → Prop} {s s2 : St} (hF : Fr P E B β S s a w) (hI : Inv P B β S s2.fz s2.H w) (ht : ∀ t, getT s2.tmps t = getT s.tmps t ∨ getT s2.tmps t = .dead) (hl : s2.tmps.length = s.tmps.length) (hd : s2.defers = s.defers) : Fr P E B β S s2 a w := by
  refine ⟨hI, hF.glob, fun t => ?_, by rw [hl]; exact hF.size, by rw [hd]; exact hF.defs⟩
  rcases ht t with h | h
  · rw [h]; exact hF.tmp t
  · rw [h]; simp only [rep]
theorem Mid.finish (R : Run P E call ops as d bef p st rc) (M : Mid P E ops as p st rc B β0 S0 w0 listed β S s a w) (hall : ∀ i, i < as.length → gone listed i) :
    p = none ∧ Left P E B β0 S0 (st 0) w0 .normal (st as.length) .normal a w := by
  have hp : p = none := by
    cases hq : p with
    | none => rfl
    | some q => exact absurd (hall q.1 (R.plt q hq)) (M.pan q hq)
  have hb : ∀ b, sameAtB (st as.length).H (st as.length).fz s.H s.fz b := fun b => M.blk b _ (Nat.le_refl _) fun j hj => ⟨fun _ => wrB_lt R hj, fun h => hall j h⟩
  have ht : ∀ t, getT s.tmps t = getT (st as.length).tmps t := fun t => M.tmp t _ (Nat.le_refl _) fun j ⟨_, y, hy, _⟩ => ⟨fun _ => (List.getElem?_eq_some_iff.1 hy).1, fun h => hall j h⟩
  have hst : Step P B (domB (st 0).H) β0 S0 (st 0).H (st 0).nx w0 β S (st as.length).fz (st as.length).H (st as.length).nx w :=
    M.step.less (fun b blk h => by rw [(hb b).1]; exact h) (fun b _ => (hb b).2.symm) (fun b h => by rw [(hb b).2]; exact h)
  exact ⟨hp, β, S, hst, fr_same M.fr hst.inv (fun t => .inl (ht t).symm) (by rw [R.len (Nat.le_refl _), M.len]) (by rw [R.defers (Nat.le_refl _), M.defers]), rfl⟩
theorem getB_killB (H : Heap) : ∀ (W : List Nat) (b : Nat), getB (killB W H) b = if b ∈ W then none else getB H b
  | [], b => by simp [killB]
  | c :: r, b => by
    simp only [killB, getB_setB, getB_killB H r b, List.mem_cons]
    by_cases e : b = c
    · simp [e]
    · simp [e]
theorem len_killT : ∀ (l : List AOp) (tm : List AV), (killT l tm).length = tm.length
  | [], tm => rfl
  | o :: r, tm => by
    rw [killT, len_killT r]
    cases o.dst <;> simp
theorem getT_killT : ∀ (l : List AOp) (tm : List AV) (t : Nat), getT (killT l tm) t = .dead ∨ (getT (killT l tm) t = getT tm t ∧ ∀ o ∈ l, o.dst = some t → tm.length ≤ t)
  | [], tm, t => .inr ⟨rfl, fun o h => by cases h⟩
  | o :: r, tm, t => by
    rw [killT]
    cases hd : o.dst with
    | none =>
      rcases getT_killT r tm t with h | ⟨h1, h2⟩
      · exact .inl h
      · refine .inr ⟨h1, fun x hx hxt => ?_⟩
        rcases List.mem_cons.1 hx with rfl | hx
        · rw [hd] at hxt; cases hxt
        · exact h2 x hx hxt
    | some e =>
      rcases getT_killT r (tm.set e .dead) t with h | ⟨h1, h2⟩
      · exact .inl h
      · rw [getT_set] at h1
        split at h1
        · exact .inl h1
        · rename_i hc
          refine .inr ⟨h1, fun x hx hxt => ?_⟩
          rcases List.mem_cons.1 hx with rfl | hx
          · rw [hd] at hxt
            cases hxt
            omega
          · simpa using h2 x hx hxt
theorem getT_out {l : List AV} (h : l.length ≤ t) : getT l t = undefA := by
  simp [getT, List.getD_eq_getElem?_getD, List.getElem?_eq_none h]
theorem Mid.out (R : Run P E call ops as d bef p st rc) (M : Mid P E ops as p st rc B β0 S0 w0 listed β S s a w) (hn : Next ops (gone listed) i) (ha : as[i]? = some ao) {s2' : St} {vv : Value} (hev : evalOp E call none ao (st i) = some (.panic v, st (i + 1)))
    (hS : Same E call ao (st i) (.panic v) (st (i + 1)) { s with nx := (st i).nx } s2') (hrc : rc i = recOf E ao (st i) (st (i + 1))) (hf : Go.Am.fresh β0 (st 0).nx (st as.length).nx) {β' : Nat → Option Nat} {S' : Nat → Prop} {w' : World}
    (hst : Step P B (domB s.H) β S s.H (st i).nx w β' S' s2'.fz s2'.H s2'.nx w') (hF : Fr P E B β' S' s2' a w') (hv : rep P β' S' w' v vv) (W : List Nat) (hW : W = (d.free.getD i []).flatMap fun j => (rc j).wr) :
    Left P E B β0 S0 (st 0) w0 (.panic v) { st (i + 1) with tmps := killT as (st (i + 1)).tmps, H := killB W (st (i + 1)).H, fz := (st (i + 1)).fz.filter (fun b => !W.contains b), nx := (st as.length).nx } (.panic [{ v := vv, recovered := false }]) a w' := by
  have hi : i < as.length := (List.getElem?_eq_some_iff.1 ha).1
  have hnx1 := R.nx (k := 0) (m := i) (by omega) (by omega)
  have hnx2 := R.nx (k := i + 1) (m := as.length) (by omega) (by omega)
  have hnx3 : s2'.nx = (st (i + 1)).nx := hS.nx
  have hb : ∀ b, b ∉ W → sameAtB (st (i + 1)).H (st (i + 1)).fz s2'.H s2'.fz b := by
    intro b hbW
    by_cases hbi : b ∈ (rc i).wr
    · exact hS.loc.wr b (by rw [hrc] at hbi; exact hbi)
    · have h1 : sameAtB s.H s.fz s2'.H s2'.fz b := hS.loc.keep2 b (by rw [hrc] at hbi; exact hbi)
      refine ((R.keep1 hi hbi).symm.trans (M.blk b i (by omega) fun j hj => ?_)).trans h1
      have hjl := wrB_lt R hj
      have hne : j ≠ i := fun e => hbi (e ▸ hj)
      refine Classical.byContradiction fun hno => ?_
      have hu := hn.unord M.clo R.drawn (by rw [R.size]; exact hi) (by rw [R.size]; exact hjl) hne hno
      rw [Nat.max_comm, Nat.min_comm] at hu
      have := R.drawn.free i j ao (Ne.symm hne) ha hjl (mayPanic_of hev) hu
      exact hbW (by rw [hW]; exact List.mem_flatMap.2 ⟨j, this, hj⟩)
  have hcon : ∀ b, ((st (i + 1)).fz.filter (fun b => !W.contains b)).contains b = (!W.contains b && (st (i + 1)).fz.contains b) := fun b => by
    rw [Bool.eq_iff_iff]
    simp [and_comm]
  have h1 := (M.step.within hst hf hnx1 (by rw [hnx3]; exact hnx2)).less (H2 := killB W (st (i + 1)).H) (fz2 := (st (i + 1)).fz.filter (fun b => !W.contains b)) (fun b blk h => by
      rw [getB_killB] at h
      split at h
      · cases h
      · rename_i hbW; rw [(hb b hbW).1]; exact h) (fun b h => by
      rw [getB_killB] at h
      split at h
      · cases h
      · rename_i hbW
        rw [hcon, (hb b hbW).2]
        simp [hbW]) (fun b h => by
      rw [hcon, Bool.and_eq_true] at h
      have hbW : b ∉ W := by simpa using h.1
      rw [(hb b hbW).2]; exact h.2)
  obtain ⟨q1, q2⟩ := hS.stay (fun h => by cases h)
  refine ⟨β', S', h1, fr_same hF h1.inv (fun t => ?_) ?_ ?_, vv, rfl, hv⟩
  · show getT (killT as (st (i + 1)).tmps) t = getT s2'.tmps t ∨ getT (killT as (st (i + 1)).tmps) t = .dead
    rcases getT_killT as (st (i + 1)).tmps t with h | ⟨h, hno⟩
    · exact .inr h
    · refine .inl ?_
      rw [h, q1, q2]
      by_cases hlen : (st (i + 1)).tmps.length ≤ t
      · rw [getT_out (by rw [← q1]; exact hlen), getT_out]
        show s.tmps.length ≤ t
        rw [M.len, ← R.len (i := i + 1) (by omega)]; exact hlen
      · refine (M.tmp t i (by omega) fun j ⟨_, y, hy, hyt⟩ => ?_).symm
        exact absurd (hno y (List.mem_of_getElem? hy) hyt) hlen
  · show (killT as (st (i + 1)).tmps).length = s2'.tmps.length
    rw [len_killT, R.len (i := i + 1) (by omega), q2]
    exact M.len.symm
  · show (st (i + 1)).defers = s2'.defers
    rw [R.defers (i := i + 1) (by omega), hS.defers2]
    exact M.defers.symm
def Result (as : List AOp) (d : Draw) (st : Nat → St) (rc : Nat → Rec) (x : Ex) (s' : St) : Option (Nat × AV × St) → Prop
  | none => x = .normal ∧ s' = st as.length
  | some (k, v, t) => x = .panic v ∧ s' = { t with tmps := killT as t.tmps, H := killB ((d.free.getD k []).flatMap fun j => (rc j).wr) t.H, fz := t.fz.filter (fun b => !((d.free.getD k []).flatMap fun j => (rc j).wr).contains b), nx := (st as.length).nx }
theorem any_ok (hE : EnvOK P E) (hcall : CallsOK P E call) (R : Run P E call ops as d bef p st rc) (hf : fresh β0 (st 0).nx (st as.length).nx) {x : Ex} (hres : Result as d st rc x s' p) :
    ∀ (fuel : Nat) (listed : Array Bool) (β : Nat → Option Nat) (S : Nat → Prop) (s : St) (a : Act) (w : World), Mid P E ops as p st rc B β0 S0 w0 listed β S s a w → leftOf listed ≤ fuel →
      wpAny P .any ops (Left P E B β0 S0 (st 0) w0 x s') fuel listed a w := by
  intro fuel
  induction fuel with
  | zero =>
    intro listed β S s a w M hl
    have hall : ∀ i, i < as.length → gone listed i := fun i hi => gone_of_left (by omega) (by rw [M.size, R.size]; exact hi)
    obtain ⟨hp, hL⟩ := M.finish R hall
    rw [hp] at hres
    obtain ⟨rfl, rfl⟩ := hres
    refine ⟨?_, hL⟩
    refine List.eq_nil_iff_forall_not_mem.2 fun i hi => ?_
    obtain ⟨h1, h2⟩ := next_of_ready hi M.size
    exact h2.new (hall i (by rw [← R.size]; exact h1))
  | succ fuel ih =>
    intro listed β S s a w M hl
    refine ⟨fun hr => ?_, fun i hi => ?_⟩
    · have hall : ∀ i, i < as.length → gone listed i := fun i hi => all_gone hr M.size R.drawn i (by rw [R.size]; exact hi)
      obtain ⟨hp, hL⟩ := M.finish R hall
      rw [hp] at hres
      obtain ⟨rfl, rfl⟩ := hres
      exact hL
    · obtain ⟨h1, hn⟩ := next_of_ready hi M.size
      have hia : i < as.length := by rw [← R.size]; exact h1
      obtain ⟨ao, ha⟩ := as_some hia
      obtain ⟨o, ho, hc⟩ := R.map i ao ha
      obtain ⟨y, s2', hev, hS, hrc⟩ := M.here R hn ha
      have hF2 : Fr P E B β S { s with nx := (st i).nx } a w := ⟨M.fr.inv, M.fr.glob, M.fr.tmp, M.fr.size, M.fr.defs⟩
      have hfr : fresh β (st i).nx s2'.nx := by rw [hS.nx]; exact M.fresh i hia hn.new
      refine doesOp.wpOp <| evalOp_ok hE hcall ho hc hF2 hS.run hfr (fun hy β' S' a' w' k1 k2 k3 => ?_) (fun v hv β' S' w' vv k1 k2 k3 => ?_)
      · subst hy
        refine ih _ β' S' s2' a' w' (M.go R hn ha hev hS hrc hf k1 k2) ?_
        have := leftOf_set (listed := listed) (i := i) (by rw [M.size]; exact h1) hn.new
        omega
      · subst hv
        obtain ⟨_, _, y, h2, h3⟩ := R.done ha (M.done R hn hia)
        rw [hev] at h2
        cases h2
        rcases h3 with ⟨h3, _⟩ | ⟨v', h3, h4⟩
        · cases h3
        · cases h3
          rw [h4] at hres
          obtain ⟨rfl, rfl⟩ := hres
          exact M.out R hn ha hev hS hrc hf k1 k2 k3 _ rfl
theorem draws_ok (hm : P.follows .mixedOrders = true) (hE : EnvOK P E) (call : CallT) (hcall : CallsOK P E call) : DrawsOK P E call := by
  intro id ops as d hmap hdr B β S s a w x s' hF he hf
  refine ⟨evalDraw_nx _ _ _ _ _ he, wp_region_any hm ?_⟩
  have hlen := mapM_len hmap
  simp only [evalDraw] at he
  split at he
  case h_2 => cases he
  rename_i p s1 rs hsteps
  split at he
  case isFalse => cases he
  rename_i hpairs
  obtain ⟨sts, rcs, k1, k2, k3, k4, k5, k6, k7, k8⟩ := steps_trace as 0 s none [] p s1 rs hsteps (fun q hq => by cases hq)
  simp only [List.reverse_nil, List.nil_append] at k3
  subst k3
  have R : Run P E call ops as d (befGo [] ops.toList) p (fun i => sts.getD i s) (fun i => rs.getD i default) := by
    refine ⟨fun i ao hi => ?_, by rw [hlen]; simp, drawOf_spec hdr, fun i ao hi => ?_, fun i hi => ?_, fun q hq => ?_, fun i j hij => ?_⟩
    · obtain ⟨o, ho, hco⟩ := mapM_idx hmap i ao hi
      exact ⟨o, by simpa using ho, hco⟩
    · obtain ⟨x, y, r, q1, q2, q3, q4⟩ := k6 i ao hi
      simp only [List.getD_eq_getElem?_getD, q1, q2, q3, Option.getD_some]
      rwa [Nat.zero_add] at q4
    · rw [List.getD_eq_getElem?_getD, List.getElem?_eq_none (by omega)]; rfl
    · have := k8 rfl q hq
      omega
    · exact (List.all_eq_true.1 hpairs) (i, j) hij
  have h0 : sts.getD 0 s = s := by rw [List.getD_eq_getElem?_getD, k4]; rfl
  have hN : sts.getD as.length s = s1 := by rw [List.getD_eq_getElem?_getD, k5]; rfl
  have hf' : fresh β (sts.getD 0 s).nx (sts.getD as.length s).nx := by
    rw [h0, hN]
    split at he
    · cases he; exact hf
    · cases he; exact hf
  have hres : Result as d (fun i => sts.getD i s) (fun i => rs.getD i default) x s' p := by
    split at he
    · cases he; exact ⟨rfl, hN.symm⟩
    · cases he
      refine ⟨rfl, ?_⟩
      show _ = St.mk _ _ (sts.getD as.length s).nx _ _ _
      rw [hN]
  have hD : ∀ j, ¬ gone (Array.replicate ops.size false) j := fun j hj => by
    unfold gone at hj
    simp only [Array.getD_eq_getD_getElem?, Array.getElem?_replicate] at hj
    split at hj <;> cases hj
  have hnx : s.nx ≤ (sts.getD as.length s).nx := by
    have := R.nx (k := 0) (m := as.length) (by omega) (by omega)
    rw [h0] at this
    exact this
  have hI : Inv P B β S s.fz s.H { w with drawn := w.drawn + 1 } := inv_heap hF.inv rfl
  have hE0 : Ext β S w β S { w with drawn := w.drawn + 1 } := ⟨fun _ _ h => h, fun _ h => h, fun _ _ => rfl, fun _ _ h => h⟩
  have hF' : Fr P E B β S s a { w with drawn := w.drawn + 1 } := ⟨hI, hF.glob.ext (fun _ h => h) (fun _ _ => rfl), fun t => rep_ext hE0 _ _ (hF.tmp t), hF.size, defs_ext hE0 _ _ hF.defs⟩
  have M : Mid P E ops as p (fun i => sts.getD i s) (fun i => rs.getD i default) B β S w (Array.replicate ops.size false) β S s a { w with drawn := w.drawn + 1 } := by
    refine ⟨by simp, hF', ?_, fun i hi => absurd hi (hD i), fun i hi _ b hb1 hb2 => ?_, fun b k hk hag => ?_, fun t k hk hag => ?_, ?_, ?_, fun q _ h => hD _ h⟩
    · simp only [h0]
      exact ⟨hE0, hI, ⟨rfl, rfl, rfl, Nat.le_refl _, fun _ _ => rfl⟩, ⟨hnx, fun b => .inl rfl⟩, fun _ _ _ => rfl, fun _ h => .inl h, fun _ h => .inl h⟩
    · refine hf' b ?_ ?_
      · exact Nat.le_trans (R.nx (k := 0) (m := i) (by omega) (by omega)) hb1
      · exact Nat.lt_of_lt_of_le hb2 (R.nx (k := i + 1) (m := as.length) (by omega) (by omega))
    · have := R.keep (b := b) (k := 0) (m := k) (by omega) hk fun j _ hj hw => hD j ((hag j hw).2 hj)
      simp only [h0] at this
      exact this.symm
    · have := R.tkeep (t := t) (k := 0) (m := k) (by omega) hk fun j _ hj hw => hD j ((hag j hw).2 hj)
      simp only [h0] at this
      exact this.symm
    · simp only [h0]
    · simp only [h0]
  have := any_ok hE hcall R hf' hres ops.size (Array.replicate ops.size false) β S s a _ M (by
    unfold leftOf
    simp [List.count_replicate])
  simp only [h0] at this
  exact this
theorem calls_ok {hm : FuncId → Bool} (hP : P.follows .mixedOrders = true) (hE : EnvOK P E) (hC : CodeOK P E hm) (k : Nat) : CallsOK P E (evalFn E k) := (evalFn_ok hE hC (fun call h => draws_ok hP hE call h) k).1
end
end Go.Am
end
