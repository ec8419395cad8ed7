/- Parts of the proof. -/
import GoSem.ClaimChange
import Derived.Test.YtjilaaoaebglbaaGreatDoorA02
set_option linter.unusedVariables false
set_option linter.unusedSimpArgs false
set_option linter.unnecessarySimpa false
set_option linter.unusedSectionVars false
section
namespace Go.Am
open Go
mutual
def avD {Hh : Type} : DataW Hh → List AV
  | .lit (.bool b) => [.bool b]
  | .lit (.int k n) => [.int k n]
  | .lit (.string s) => [.str s]
  | .nil => [.row 0 []]
  | .slice es _ => [.row es.length (avL es)]
  | .agg ps => avL ps
  | _ => [.dead]
def avL {Hh : Type} : List (DataW Hh) → List AV
  | [] => []
  | d :: r => avD d ++ avL r
end
theorem avL_append {Hh : Type} : ∀ (a b : List (DataW Hh)), avL (a ++ b) = avL a ++ avL b
  | [], b => by simp [avL]
  | d :: a, b => by simp [avL, avL_append a b]
def tiles (P : Program) : List Field → Nat → Nat → Bool
  | [], n, m => n == m
  | f :: r, n, m => f.offset == n && tiles P r (n + P.cellsOf f.type) m
def plainT (P : Program) (T : List TypeId) : Bool := T.all fun t => match P.underlying t with
  | some .bool | some .string | some (.int _) => P.cellsOf t == 1
  | some (.slice e) => T.contains e && decide (0 < P.cellsOf e) && P.cellsOf t == 1
  | some (.struct fs) => (fs.toList.all fun f => T.contains f.type) && tiles P fs.toList 0 (P.cellsOf t)
  | _ => false
section
variable {Hh : Type} {enc : TypeId × Value → Hh} {P : Program} {w : World} {base : Nat} {spare : Nat → Bool} {held : Bool} {T : List TypeId}
def allB (w : World) (c : Nat) : Prop := c < w.heap.size
theorem srepL_append {S : Nat → Prop} : ∀ {xs ys : List AV} {l m : List Value}, srepL S w xs l → srepL S w ys m → srepL S w (xs ++ ys) (l ++ m)
  | [], ys, l, m, h, k => by simp only [srepL] at h; subst h; simpa using k
  | x :: xs, ys, l, m, h, k => by
    simp only [srepL] at h
    obtain ⟨v, r, rfl, hx, hr⟩ := h
    simp only [List.cons_append, srepL]
    exact ⟨v, r ++ m, rfl, hx, srepL_append hr k⟩
theorem srepL_len {S : Nat → Prop} : ∀ {xs : List AV} {l : List Value}, srepL S w xs l → xs.length = l.length
  | [], l, h => by simp only [srepL] at h; subst h; rfl
  | x :: xs, l, h => by
    simp only [srepL] at h
    obtain ⟨v, r, rfl, hx, hr⟩ := h
    simp [srepL_len hr]
theorem srepC_append {S : Nat → Prop} : ∀ {xs ys : List AV} {b o : Nat}, srepC S w xs b o → srepC S w ys b (o + xs.length) → srepC S w (xs ++ ys) b o
  | [], ys, b, o, h, k => by simpa using k
  | x :: xs, ys, b, o, h, k => by
    simp only [List.cons_append, srepC] at h ⊢
    refine ⟨h.1, srepC_append h.2 ?_⟩
    rwa [show o + 1 + xs.length = o + (x :: xs).length by simp; omega]
theorem srepC_of_cells {S : Nat → Prop} {b : Nat} : ∀ {xs : List AV} {cs : List Value} {o : Nat}, srepL S w xs cs → flatL xs = true → (∀ (j : Nat) (v : Value), cs[j]? = some v → w.cell? ⟨b, o + j, none⟩ = some v) → srepC S w xs b o
  | [], cs, o, h, _, _ => by simp only [srepC]
  | x :: xs, cs, o, h, hf, hc => by
    simp only [srepL] at h
    obtain ⟨v, r, rfl, hx, hr⟩ := h
    simp only [flatL, List.all_cons, Bool.and_eq_true] at hf
    simp only [srepC]
    refine ⟨⟨hf.1, v, by simpa using hc 0 v (by simp), hx⟩, srepC_of_cells hr (by simpa [flatL] using hf.2) fun j u hj => ?_⟩
    have := hc (j + 1) u (by simpa using hj)
    rwa [show o + (j + 1) = o + 1 + j by omega] at this
theorem flatL_app {xs ys : List AV} : flatL (xs ++ ys) = (flatL xs && flatL ys) := by simp [flatL]
theorem cells_some {a : Addr} {n : Nat} {l : List Value} (h : w.cells? base a n = some l) : l.length = n ∧ ∀ (j : Nat) (v : Value), l[j]? = some v → w.cell? (a.add j) = some v := by
  unfold World.cells? at h
  split at h
  · refine ⟨by have := mapM_len h; simpa using this, fun j v hj => ?_⟩
    obtain ⟨hlt, _⟩ := List.getElem?_eq_some_iff.1 hj
    have hl := mapM_len h
    rw [List.length_range] at hl
    obtain ⟨y, hy, hc⟩ := mapM_get h j j (by rw [List.getElem?_range (by omega)])
    rw [hj] at hy
    cases hy
    exact hc
  · cases h
theorem cell_lt {a : Addr} {v : Value} (h : w.cell? a = some v) : a.spot = none ∧ a.block < w.heap.size := by
  unfold World.cell? at h
  split at h
  · rename_i hh
    refine ⟨?_, (Array.getElem?_eq_some_iff.1 hh).1⟩
    split at h
    · cases h
    · rename_i hs; simpa using hs
  · cases h
theorem trod_srep (hT : plainT P T = true) : ∀ (fuel : Nat) (t : TypeId) (cs : List Value) (d : DataW Hh) (ps : List MemPlace), t ∈ T → DataW.trod enc P w base spare held fuel t cs = some (d, ps) →
    srepL (allB w) w (avD d) cs ∧ flatL (avD d) = true ∧ cs.length = P.cellsOf t := by
  intro fuel
  induction fuel with
  | zero => intro t cs d ps ht h; simp [DataW.trod] at h
  | succ fuel ih =>
    intro t cs d ps ht h
    have hp := (List.all_eq_true.1 hT) t ht
    have h0 := h
    unfold DataW.trod at h
    cases hu : P.underlying t with
    | none => simp [hu] at hp
    | some u =>
      rw [hu] at hp h
      cases u <;> simp only at hp <;> first
        | (cases hp; done)
        | skip
      case bool =>
        have hc := beq_iff_eq.1 hp
        split at h <;> first
          | (cases h; done)
          | (rename_i h1; cases h1; done)
          | skip
        rename_i b _
        cases h
        exact ⟨by simp [avD, srepL, srep], rfl, by rw [hc]; rfl⟩
      case int k =>
        have hc := beq_iff_eq.1 hp
        split at h <;> first
          | (cases h; done)
          | (rename_i h1; cases h1; done)
          | skip
        rename_i k1 k' n h1
        cases h1
        split at h
        · rename_i h2
          cases h
          obtain ⟨rfl, _⟩ := h2
          exact ⟨by simp [avD, srepL, srep], rfl, by rw [hc]; rfl⟩
        · cases h
      case string =>
        have hc := beq_iff_eq.1 hp
        split at h <;> first
          | (cases h; done)
          | (rename_i h1; cases h1; done)
          | skip
        rename_i s _
        split at h
        · cases h
          refine ⟨?_, rfl, by rw [hc]; rfl⟩
          simp only [avD, srepL, srep]
          refine ⟨_, [], rfl, ?_, rfl⟩
          cases s; rfl
        · cases h
      case slice e =>
        simp only [Bool.and_eq_true, decide_eq_true_eq] at hp
        have hc := beq_iff_eq.1 hp.2
        have he : e ∈ T := by simpa using hp.1.1
        have hpos := hp.1.2
        split at h <;> first
          | (cases h; done)
          | (rename_i h1; cases h1; done)
          | skip
        · -- nil
          cases h
          refine ⟨?_, rfl, by rw [hc]; rfl⟩
          simp only [avD, srepL, srep]
          exact ⟨_, [], rfl, ⟨none, 0, rfl, by simp, .inl (by simp)⟩, rfl⟩
        · rename_i e' a len cap h1
          cases h1
          simp only at h
          split at h
          case isFalse => cases h
          rename_i hb
          obtain ⟨elems, hel, h⟩ := Option.bind_eq_some_iff.1 h
          obtain ⟨rest, _, h⟩ := Option.map_eq_some_iff.1 h
          cases h
          have hlen : elems.length = len := by have := mapM_len hel; simpa using this
          have hel' : ∀ (i : Nat) (x : DataW Hh × List MemPlace), elems[i]? = some x → ∃ l, w.cells? base (a.add (i * P.cellsOf e)) (P.cellsOf e) = some l ∧ srepL (allB w) w (avD x.1) l ∧ flatL (avD x.1) = true ∧ l.length = P.cellsOf e := by
            intro i x hx
            have hi : i < len := by rw [← hlen]; exact (List.getElem?_eq_some_iff.1 hx).1
            obtain ⟨y, hy, hf⟩ := mapM_get hel i i (by simp [hi])
            rw [hx] at hy
            cases hy
            obtain ⟨l, hl, hd⟩ := Option.bind_eq_some_iff.1 hf
            exact ⟨l, hl, ih e l x.1 x.2 he hd⟩
          have key : ∀ (n i : Nat) (r : List (DataW Hh × List MemPlace)), r.length = n → (∀ (j : Nat) x, r[j]? = some x → elems[i + j]? = some x) → a.spot = none ∨ r = [] → srepC (allB w) w (avL (r.map (·.1))) a.block (a.off + i * P.cellsOf e) ∧ flatL (avL (r.map (·.1))) = true := by
            intro n
            induction n with
            | zero =>
              intro i r hr _ _
              have : r = [] := List.eq_nil_of_length_eq_zero hr
              subst this
              exact ⟨by simp [avL, srepC], rfl⟩
            | succ n ihn =>
              intro i r hr hj hsp
              cases r with
              | nil => simp at hr
              | cons x r =>
                have hsp' : a.spot = none := hsp.resolve_right (by simp)
                obtain ⟨l, h1, h2, h3, h4⟩ := hel' i x (by have := hj 0 x (by simp); simpa using this)
                obtain ⟨_, h6⟩ := cells_some h1
                have h7 := ihn (i + 1) r (by simpa using hr) (fun j y hy => by
                  have := hj (j + 1) y (by simpa using hy)
                  rwa [show i + (j + 1) = i + 1 + j by omega] at this) (.inl hsp')
                have hl : (avD x.1).length = P.cellsOf e := by rw [srepL_len h2, h4]
                simp only [List.map_cons, avL]
                refine ⟨srepC_append (srepC_of_cells h2 h3 fun j v hjv => ?_) ?_, by rw [flatL_app, h3, h7.2]; rfl⟩
                · have := h6 j v hjv
                  have e1 : (a.add (i * P.cellsOf e)).add j = ⟨a.block, a.off + i * P.cellsOf e + j, none⟩ := by
                    cases a
                    simp only at hsp'
                    subst hsp'
                    unfold Addr.add
                    by_cases e2 : i * P.cellsOf e = 0 <;> by_cases e3 : j = 0 <;> simp [e2, e3] <;> omega
                  rwa [e1] at this
                · rw [hl]
                  have := h7.1
                  rwa [Nat.add_mul, Nat.one_mul, ← Nat.add_assoc] at this
          have hsp : a.spot = none ∨ elems = [] := by
            cases hel2 : elems with
            | nil => exact .inr rfl
            | cons x r =>
              obtain ⟨l, h1, _, _, h4⟩ := hel' 0 x (by rw [hel2]; rfl)
              obtain ⟨_, h6⟩ := cells_some h1
              cases l with
              | nil => simp at h4; omega
              | cons v l =>
                have := h6 0 v (by simp)
                simp [Addr.add] at this
                exact .inl (cell_lt this).1
          obtain ⟨k1, k2⟩ := key elems.length 0 elems rfl (fun j x hx => by simpa using hx) hsp
          refine ⟨?_, rfl, by rw [hc]; rfl⟩
          simp only [avD, srepL, srep]
          refine ⟨_, [], rfl, ⟨some a, cap, by simp [hlen], by simp [hlen]; exact hb.2.1, ?_⟩, rfl⟩
          rcases hsp with hsp | hsp
          · cases hel2 : elems with
            | nil => exact .inl ⟨by simp, by simp [avL]⟩
            | cons x r =>
              refine .inr ⟨a.block, a.off, ?_, ?_, ?_⟩
              · cases a; simp only at hsp; subst hsp; rfl
              · obtain ⟨l, h1, _, _, h4⟩ := hel' 0 x (by rw [hel2]; rfl)
                obtain ⟨_, h6⟩ := cells_some h1
                cases l with
                | nil => simp at h4; omega
                | cons v l =>
                  have := h6 0 v (by simp)
                  simp [Addr.add] at this
                  exact (cell_lt this).2
              · rw [hel2] at k1
                simpa using k1
          · exact .inl ⟨by simp [hsp], by simp [hsp, avL]⟩
      case struct fs =>
        simp only [Bool.and_eq_true] at hp
        obtain ⟨hf, ht2⟩ := hp
        clear h
        have h : (if cs.length = P.cellsOf t then (fs.toList.mapM fun f => DataW.trod enc P w base spare held fuel f.type ((cs.drop f.offset).take (P.cellsOf f.type))).map fun xs => (DataW.agg (xs.map (·.1)), xs.flatMap (·.2)) else none) = some (d, ps) := by
          rw [← h0, DataW.trod]
          exact hu
        split at h
        case isFalse => cases h
        rename_i hcs
        obtain ⟨xs, hx, h⟩ := Option.map_eq_some_iff.1 h
        cases h
        have key : ∀ (l : List Field) (n : Nat) (xs : List (DataW Hh × List MemPlace)), (∀ f ∈ l, f.type ∈ T) → tiles P l n (P.cellsOf t) = true → n ≤ cs.length →
            l.mapM (fun f => DataW.trod enc P w base spare held fuel f.type ((cs.drop f.offset).take (P.cellsOf f.type))) = some xs →
            srepL (allB w) w (avL (xs.map (·.1))) (cs.drop n) ∧ flatL (avL (xs.map (·.1))) = true := by
          intro l
          induction l with
          | nil =>
            intro n xs _ ht hn hm
            simp at hm
            subst hm
            have := beq_iff_eq.1 ht
            rw [List.drop_of_length_le (by omega)]
            exact ⟨by simp [avL, srepL], rfl⟩
          | cons f r ihl =>
            intro n xs hT' ht hn hm
            obtain ⟨y, ys, h1, h2, rfl⟩ := mapM_cons_some hm
            simp only [tiles, Bool.and_eq_true] at ht
            have ho := beq_iff_eq.1 ht.1
            obtain ⟨q1, q2, q3⟩ := ih f.type _ y.1 y.2 (hT' f (by simp)) h1
            rw [List.length_take, List.length_drop] at q3
            have hle : n + P.cellsOf f.type ≤ cs.length := by omega
            obtain ⟨q4, q5⟩ := ihl (n + P.cellsOf f.type) ys (fun g hg => hT' g (by simp [hg])) ht.2 hle h2
            simp only [List.map_cons, avL]
            refine ⟨?_, by rw [flatL_app, q2, q5]; rfl⟩
            have e : cs.drop n = (cs.drop f.offset).take (P.cellsOf f.type) ++ cs.drop (n + P.cellsOf f.type) := by
              rw [ho, ← List.drop_drop, List.take_append_drop]
            rw [e]
            exact srepL_append q1 q4
        have := key fs.toList 0 xs (fun f hf' => by simpa using (List.all_eq_true.1 hf) f hf') ht2 (Nat.zero_le _) hx
        simp only [avD]
        exact ⟨by simpa using this.1, this.2, hcs⟩
end
end Go.Am
end
