/- Parts of the proof. -/
import Derived.Test.YtjilaaoaebglbaaGreatDoorA20
set_option linter.unusedVariables false
set_option linter.unusedSimpArgs false
set_option linter.unnecessarySimpa false
set_option linter.unusedSectionVars false
section
namespace Go.Am
open Go Go.Proofs Go.RowKit
def selfB : AV → Nat → Bool
  | .nilp, _ => true
  | .ptr b' 0, b => Nat.beq b' b
  | _, _ => false
def hpCopy : List AV → Heap → Nat → List Nat → Option Back
  | [.ptr b 0], H, nx, fz => match getB H b with
    | some (.cells 109 2 [x, y]) => if fz.contains b = false ∧ selfB x b = true then some ⟨.ret (.tuple []), setB H b (some (.cells 109 2 [.ptr b 0, y])), nx, fz, false⟩ else none
    | _ => none
  | _, _, _, _ => none
def strB : List AV → Option (List UInt8)
  | [] => some []
  | .int .u8 (.ofNat n) :: r => if n < 256 then (strB r).map fun s => UInt8.ofNat n :: s else none
  | _ => none
def hpString : List AV → Heap → Nat → List Nat → Option Back
  | [.ptr b 0], H, nx, fz => match getB H b with
    | some (.cells 109 2 [x, .sl g 0 n]) => match getB H g with
      | some (.cells 5 1 cs) => if fz.contains g = false ∧ n ≤ cs.length ∧ 0 < n ∧ n ≤ 9223372036854775807 then (strB (cs.take n)).map fun s => ⟨.ret (.str s), H, nx, g :: fz, false⟩ else none
      | _ => none
    | _ => none
  | _, _, _, _ => none
section
variable {E : Env} {H : Heap} {nx : Nat} {fz : List Nat} {args : List AV} {b : Back}
theorem hpCopy_ok (h : hpCopy args H nx fz = some b) : CallOK Tryz.prog E 129 args H nx fz b := by
  obtain ⟨p, x, y, rfl, hg, hz, hx, rfl⟩ : ∃ p x y, args = [.ptr p 0] ∧ getB H p = some (.cells 109 2 [x, y]) ∧ fz.contains p = false ∧ selfB x p = true ∧ b = ⟨.ret (.tuple []), setB H p (some (.cells 109 2 [.ptr p 0, y])), nx, fz, false⟩ := by
    unfold hpCopy at h
    split at h
    · split at h
      · rename_i hg
        split at h
        · rename_i hc; cases h; exact ⟨_, _, _, rfl, hg, hc.1, hc.2, rfl⟩
        · cases h
      · cases h
    · cases h
  intro B β S w vs hI hG hr hf
  simp only [repL, rep] at hr
  obtain ⟨v, r, rfl, ⟨c, hbc, rfl⟩, rfl⟩ := hr
  have hrb := hI.rb p c _ hbc hg
  rw [hz] at hrb
  obtain ⟨ccs, fr, k1, k2, k3, k4, k5⟩ := hrb
  have hsome : (getB H p).isSome := by rw [hg]; rfl
  obtain ⟨hB, hS⟩ := hI.sep p c hbc hsome hz
  obtain ⟨hfl, v0, hv0, hr0⟩ := k5 0 x rfl
  have hfr := k2 rfl
  have h0 : w.cell? ⟨c, 0, none⟩ = some v0 := by simp [World.cell?, k1, hv0]
  refine goes_of_calls Tryz.func129 (by kernel_rfl) rfl ?_
  cases x <;> try (cases hx; done)
  case nilp =>
    simp only [rep] at hr0
    subst hr0
    refine (copyCheck_fresh c ccs.size w h0 (by simp [World.shape?, k1]) k4 (by simp [World.frozen?, k1, hfr])).mono ?_
    rintro e w' ⟨rfl, rfl⟩
    have hw' : w.setCell ⟨c, 0, none⟩ (.pointer (some ⟨c, 0, none⟩)) = w.setCells c 0 [.pointer (some ⟨c, 0, none⟩)] := rfl
    rw [hw']
    have hE : Ext β S w β S (w.setCells c 0 [.pointer (some ⟨c, 0, none⟩)]) := ext_set (β := β) (w := w) (o := 0) (vs := [.pointer (some ⟨c, 0, none⟩)]) k1 hS (by simp at k4 ⊢; omega)
    have hrb' := hI.rb p c _ hbc hg
    rw [hz] at hrb'
    have hnew := rb_set (o := 0) (cs := [.nilp, y]) (new := [.ptr p 0]) hE hrb' (by simp only [repL, rep]; exact ⟨_, [], rfl, ⟨c, hbc, rfl⟩, rfl⟩) rfl (by simp)
    have hinv := inv_set hI hbc hsome hz hE hnew
    refine ⟨β, S, ⟨hE, hinv, below_setCells hB _ _ _, Grow.refl _ _ _ _, fun d hd hne => heap_setCells c _ _ w d (by rintro rfl; exact hne p hsome hbc), fun _ h => .inl h, fun d hd => ?_⟩, _, rfl, ?_⟩
    · rw [getB_setB] at hd
      split at hd
      · rename_i e; subst e; exact .inl hsome
      · exact .inl hd
    · simp only [rep]; exact ⟨[], rfl, rfl⟩
  case ptr q o =>
    by_cases ho : o = 0
    case neg =>
      cases o with
      | zero => exact absurd rfl ho
      | succ o => simp [selfB] at hx
    case pos =>
      subst ho
      have hq : q = p := Nat.eq_of_beq_eq_true hx
      subst hq
      simp only [rep] at hr0
      obtain ⟨c', hc', rfl⟩ := hr0
      rw [hbc] at hc'
      cases hc'
      refine (copyCheck_used c w h0).mono ?_
      rintro e w' ⟨rfl, rfl⟩
      have hH : ∀ d, getB (setB H q (some (.cells 109 2 [.ptr q 0, y]))) d = getB H d := fun d => by
        rw [getB_setB]
        split
        · rename_i e; rw [e, hg]
        · rfl
      refine ⟨β, S, ⟨Ext.refl _ _ _, inv_less hI (fun d blk hd => by rw [← hH]; exact hd) (fun _ _ => rfl) (fun _ h => h), Below.refl _ _, Grow.refl _ _ _ _, fun _ _ _ => rfl, fun _ h => .inl h, fun d hd => by rw [hH] at hd; exact .inl hd⟩, _, rfl, ?_⟩
      simp only [rep]; exact ⟨[], rfl, rfl⟩
theorem strB_spec : ∀ {cs : List AV} {s : List UInt8}, strB cs = some s → cs = bytesA s
  | [], s, h => by simp only [strB] at h; cases h; rfl
  | x :: cs, s, h => by
    unfold strB at h
    split at h
    · rename_i h2; cases h2
    · rename_i n r heq
      cases heq
      split at h
      · rename_i hn
        obtain ⟨t, ht, rfl⟩ := Option.map_eq_some_iff.1 h
        have := strB_spec ht
        simp only [bytesA, List.map_cons] at this ⊢
        rw [← this]
        have e : (UInt8.ofNat n).toNat = n := by simp [UInt8.toNat_ofNat']; omega
        rw [e]; rfl
      · cases h
    · cases h
theorem freeze_other (w : World) (g n d : Nat) (hd : d ≠ g) : (w.drew.freeze ⟨g, 0, none⟩ n).heap[d]? = w.heap[d]? := by
  unfold World.freeze
  split
  · rfl
  · show (w.heap.modify _ _)[d]? = _
    rw [Array.getElem?_modify, if_neg (Ne.symm hd)]
theorem freeze_size (w : World) (g n : Nat) : (w.drew.freeze ⟨g, 0, none⟩ n).heap.size = w.heap.size := by
  unfold World.freeze
  split
  · rfl
  · show (w.heap.modify _ _).size = _
    rw [Array.size_modify]
theorem freeze_same (w : World) (g n : Nat) {ccs : Array Value} {e : TypeId} {fr : Nat × Nat} (h : w.heap[g]? = some (.cells ccs e fr)) : ∃ fr', (w.drew.freeze ⟨g, 0, none⟩ n).heap[g]? = some (.cells ccs e fr') := by
  unfold World.freeze
  split
  · exact ⟨fr, h⟩
  · have : w.drew.heap[g]? = some (.cells ccs e fr) := h
    simp only [Array.getElem?_modify, if_true, this, Option.map_some]
    exact ⟨_, rfl⟩
theorem hpString_ok (h : hpString args H nx fz = some b) : CallOK Tryz.prog E 54 args H nx fz b := by
  obtain ⟨p, x, g, n, cs, s, rfl, hg, hg2, hz, hn, h0, h63, hs, rfl⟩ : ∃ p x g n cs s, args = [.ptr p 0] ∧ getB H p = some (.cells 109 2 [x, .sl g 0 n]) ∧ getB H g = some (.cells 5 1 cs) ∧ fz.contains g = false ∧ n ≤ cs.length ∧ 0 < n ∧ n ≤ 9223372036854775807 ∧ strB (cs.take n) = some s ∧ b = ⟨.ret (.str s), H, nx, g :: fz, false⟩ := by
    unfold hpString at h
    split at h
    · split at h
      · rename_i hg
        split at h
        · rename_i hg2
          split at h
          · rename_i hc
            obtain ⟨s, hs, rfl⟩ := Option.map_eq_some_iff.1 h
            exact ⟨_, _, _, _, _, s, rfl, hg, hg2, hc.1, hc.2.1, hc.2.2.1, hc.2.2.2, hs, rfl⟩
          · cases h
        · cases h
      · cases h
    · cases h
  intro B β S w vs hI hG hr hf
  simp only [repL, rep] at hr
  obtain ⟨v, r, rfl, ⟨c, hbc, rfl⟩, rfl⟩ := hr
  obtain ⟨ccs, fr, k1, k2, k3, k4, k5⟩ := hI.rb p c _ hbc hg
  obtain ⟨_, v1, hv1, hr1⟩ := k5 1 _ rfl
  simp only [rep] at hr1
  obtain ⟨cg, cap, e, k, hgc, rfl, hlen, hsh, hcapk⟩ := hr1
  have hrg := hI.rb g cg _ hgc hg2
  rw [hz] at hrg
  obtain ⟨dcs, dfr, d1, d2, d3, d4, d5⟩ := hrg
  have hcs := strB_spec hs
  have hsl : s.length = n := by
    have := congrArg List.length hcs
    simp [bytesA] at this; omega
  have hsome : (getB H g).isSome := by rw [hg2]; rfl
  obtain ⟨hB, hS⟩ := hI.sep g cg hgc hsome hz
  refine goes_of_calls Tryz.func54 (by kernel_rfl) rfl ?_
  subst hsl
  refine (builder_string c cg cap dcs.size .nilIface s w (fun e => by simp [e] at h0) (by simp [World.cell?, k1, hv1]) (by omega) (by simp [World.shape?, d1]) (by omega) h63 ?_).mono ?_
  · intro j x hx
    have hj : j < s.length := (List.getElem?_eq_some_iff.1 hx).1
    have e1 : (cs.take s.length)[j]? = some (.int .u8 x.toNat) := by rw [hcs]; simp [bytesA, hx]
    rw [List.getElem?_take, if_pos hj] at e1
    obtain ⟨_, u, hu, hru⟩ := d5 j _ e1
    simp only [rep] at hru
    subst hru
    simp [World.cell?, d1, hu]
  · rintro e w' ⟨rfl, rfl⟩
    obtain ⟨fr', hfr'⟩ := freeze_same w cg s.length d1
    have hoth : ∀ d, d ≠ cg → (w.drew.freeze ⟨cg, 0, none⟩ s.length).heap[d]? = w.heap[d]? := fun d hd => freeze_other w cg _ d hd
    have hsz := freeze_size w cg s.length
    generalize hw' : w.drew.freeze ⟨cg, 0, none⟩ s.length = w' at *
    have hE : Ext β S w β (fun d => S d ∨ d = cg) w' := ⟨fun _ _ h => h, fun _ h => .inl h, fun d hd => hoth d (by rintro rfl; exact hS hd), fun d y hy => by
      by_cases hd : d = cg
      · subst hd
        simp only [World.shape?, d1] at hy
        simp only [World.shape?, hfr']
        exact hy
      · simp only [World.shape?] at hy ⊢
        rw [hoth d hd]; exact hy⟩
    have hcon : ∀ d, (g :: fz).contains d = (d == g || fz.contains d) := fun d => by rw [List.contains_cons]
    refine ⟨β, fun d => S d ∨ d = cg, ⟨hE, ⟨?_, ?_, ?_, ?_, ?_, ?_, ?_, ?_⟩, ?_, Grow.refl _ _ _ _, ?_, ?_, fun d hd => .inl hd⟩, _, rfl, rfl⟩
    · intro b' c' blk h1 h2
      by_cases hd : c' = cg
      · subst hd
        have hbg : b' = g := by
          refine (hI.inj g b' c' hgc h1 hsome (by rw [h2]; rfl) hz).symm
        subst hbg
        rw [hg2] at h2
        cases h2
        rw [hcon, beq_self_eq_true, Bool.true_or]
        refine ⟨dcs, fr', hfr', (fun h => by cases h), d3, d4, fun i y hy => ?_⟩
        obtain ⟨h5, u, h6, h7⟩ := d5 i y hy
        exact ⟨h5, u, h6, rep_ext hE _ _ h7⟩
      · have := (hI.rb b' c' blk h1 h2).ext hE (hoth c' hd)
        rw [hcon]
        by_cases e : b' = g
        · subst e; rw [hgc] at h1; cases h1; exact absurd rfl hd
        · rw [beq_false_of_ne e, Bool.false_or]; exact this
    · intro b' c' h1 h2 h3
      rw [hcon, Bool.or_eq_false_iff] at h3
      obtain ⟨h4, h5⟩ := hI.sep b' c' h1 h2 h3.2
      refine ⟨h4, ?_⟩
      rintro (h | rfl)
      · exact h5 h
      · have := hI.inj g b' c' hgc h1 hsome h2 hz
        subst this
        simp at h3
    · intro b' c' h1 h2
      rw [hcon, Bool.or_eq_true] at h2
      rcases h2 with h2 | h2
      · have := eq_of_beq h2
        subst this
        rw [hgc] at h1; cases h1; exact .inr rfl
      · exact .inl (hI.fzS b' c' h1 h2)
    · intro x y d h1 h2 h3 h4 h5
      rw [hcon, Bool.or_eq_false_iff] at h5
      exact hI.inj x y d h1 h2 h3 h4 h5.2
    · rintro d (h | rfl)
      · rw [hsz]; exact hI.S_lt d h
      · rw [hsz]; exact hI.β_lt g d hgc
    · intro x d hd; rw [hsz]; exact hI.β_lt x d hd
    · intro x hx
      rw [hcon, Bool.or_eq_true] at hx
      rcases hx with hx | hx
      · have := eq_of_beq hx
        subst this; rw [hgc]; rfl
      · exact hI.fzd x hx
    · rw [hsz]; exact hI.B_le
    · rw [← hw']; exact Lib.below_freeze (Below.drew (Below.refl B w)) (p := ⟨cg, 0, none⟩) hB _
    · intro d hd hne
      exact hoth d (by rintro rfl; exact hne g hsome hgc)
    · rintro d (h | rfl)
      · exact .inl h
      · exact .inr (.inr ⟨g, hsome, hgc⟩)
end
end Go.Am
end
