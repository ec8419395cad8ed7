/- Parts of the proof. -/
import Derived.Test.YtjilaaoaebglbaaGreatDoorRows
import Derived.ChangeArms
import Derived.Test.YtjilaaoaebglbaaGreatDoorA13
import Derived.Test.YtjilaaoaebglbaaGreatDoorA18
set_option linter.unusedVariables false
set_option linter.unusedSimpArgs false
set_option linter.unnecessarySimpa false
set_option linter.unusedSectionVars false
section
namespace Go.Am
open Go Go.Nt Go.Proofs Go.Proofs.YtjilaaoaebglbaaGreatDoor.Rows
section
variable {H : Type} {enc : TypeId × Value → H} {w : World} {base : Nat} {spare : Nat → Bool} {held : Bool} {n : Nat} {cs : List Value} {x : DataW H × List MemPlace}
noncomputable abbrev trodS (enc : TypeId × Value → H) (w : World) (base : Nat) (spare : Nat → Bool) (held : Bool) (n : Nat) (t : TypeId) (cs : List Value) : Option (DataW H × List MemPlace) := DataW.trod enc Tryz.prog w base spare held n t cs
theorem bulk_pos (d : DataW H) : 1 ≤ uptoBulk d := by
  cases d
  case lit l => cases l <;> simp [uptoBulk]
  all_goals simp only [uptoBulk]; omega
theorem bulk_len : ∀ (l : List (DataW H)), l.length ≤ uptoBulkAll l
  | [] => Nat.zero_le _
  | d :: l => by
    have := bulk_len l
    have := bulk_pos d
    simp only [uptoBulkAll, List.length_cons]; omega
theorem bulk_mem : ∀ {l : List (DataW H)} {d : DataW H}, d ∈ l → uptoBulk d ≤ uptoBulkAll l
  | y :: l, d, h => by
    simp only [uptoBulkAll]
    rcases List.mem_cons.1 h with rfl | h
    · omega
    · have := bulk_mem h; omega
theorem dec_list {α : Type} {f : α → List AV} {ok : α → Prop} {bound : Nat} : ∀ (l : List (DataW H × List MemPlace)), (∀ y ∈ l, uptoBulk y.1 ≤ bound → ∃ a, avD y.1 = f a ∧ ok a) → uptoBulkAll (l.map (·.1)) ≤ bound → ∃ az : List α, az.length = l.length ∧ avL (l.map (·.1)) = az.flatMap f ∧ ∀ a ∈ az, ok a
  | [], _, _ => ⟨[], rfl, rfl, fun a h => by simp at h⟩
  | y :: l, h, hb => by
    simp only [List.map_cons, uptoBulkAll] at hb
    obtain ⟨a, h1, h2⟩ := h y (by simp) (by omega)
    obtain ⟨az, h3, h4, h5⟩ := dec_list l (fun z hz => h z (by simp [hz])) (by omega)
    refine ⟨a :: az, by simp [h3], by simp only [List.map_cons, avL, List.flatMap_cons, h1, h4], fun z hz => ?_⟩
    rcases List.mem_cons.1 hz with rfl | hz
    · exact h2
    · exact h5 z hz
theorem dec_slice {t e : TypeId} (ht : Tryz.prog.underlying t = some (.slice e)) (h : trodS enc w base spare held n t cs = some x) {α : Type} {f : α → List AV} {ok : α → Prop} {bound : Nat} (hb : uptoBulk x.1 ≤ bound)
    (hel : ∀ m cs y, m < n → trodS enc w base spare held m e cs = some y → uptoBulk y.1 < uptoBulk x.1 → ∃ a, avD y.1 = f a ∧ ok a) : ∃ az : List α, avD x.1 = [.row az.length (az.flatMap f)] ∧ (∀ a ∈ az, ok a) ∧ az.length ≤ bound := by
  rcases DataW.trod_slice ht h with ⟨_, rfl⟩ | ⟨a, len, cap, elems, rest, m, rfl, _, rfl, _, _, _, hlen, hget, _, _⟩
  · exact ⟨[], rfl, fun a h => by simp at h, Nat.zero_le _⟩
  · simp only [uptoBulk] at hb hel
    obtain ⟨az, h1, h2, h3⟩ := dec_list (f := f) (ok := ok) (bound := uptoBulkAll (elems.map (·.1))) elems (fun y hy hyb => by
      obtain ⟨i, hi, rfl⟩ := List.getElem_of_mem hy
      have := hget i (by omega)
      rw [List.getElem?_eq_getElem hi] at this
      obtain ⟨l, _, hl⟩ := Option.bind_eq_some_iff.1 this
      have hm := bulk_mem (List.mem_map.2 ⟨elems[i], hy, rfl⟩ : elems[i].1 ∈ elems.map (·.1))
      exact hel m l _ (by omega) hl (by omega)) (Nat.le_refl _)
    refine ⟨az, ?_, h3, ?_⟩
    · simp only [avD, List.length_map, h1, h2]
    · have := bulk_len (elems.map (·.1))
      rw [List.length_map] at this
      omega
theorem flatMap_ints (l : List Nat) : l.flatMap (fun k : Nat => [AV.int .u32 (k : Int)]) = ints .u32 l := by
  induction l with
  | nil => rfl
  | cons a l ih => rw [List.flatMap_cons, ih]; rfl
theorem dec_u32s (h : trodS enc w base spare held n 22 cs = some x) (hb : uptoBulk x.1 ≤ 1048576) : ∃ l : List Nat, avD x.1 = [R32 l] ∧ digs 4294967296 l ∧ l.length ≤ 1048576 := by
  obtain ⟨az, h1, h2, h3⟩ := dec_slice (f := fun k : Nat => [AV.int .u32 (k : Int)]) (ok := fun k => k < 4294967296) Tryz.underlying22 h hb fun m cs y _ hy _ => by
    obtain ⟨k, _, rfl, hwf⟩ := DataW.trod_int Tryz.underlying191 hy
    simp only [Lit.wf, Bool.and_eq_true, decide_eq_true_eq] at hwf
    have e1 : IntKind.u32.min = 0 := rfl
    have e2 : IntKind.u32.max = 4294967295 := rfl
    rw [e1, e2] at hwf
    exact ⟨k.toNat, by simp only [avD]; rw [Int.toNat_of_nonneg hwf.1], by omega⟩
  refine ⟨az, ?_, fun a ha => h2 a ha, h3⟩
  rw [h1, flatMap_ints]
theorem dec_rat (h : trodS enc w base spare held n 24 cs = some x) (hb : uptoBulk x.1 ≤ 1048576) : ∃ r : Rt, avD x.1 = r.cells ∧ r.ok := by
  obtain ⟨xs, m, rfl, rfl, hl, hn, hf⟩ := DataW.trod_struct Tryz.underlying24 h
  obtain ⟨x0, x1, x2, rfl⟩ : ∃ a b c, xs = [a, b, c] := by
    match xs, hn with
    | [a, b, c], _ => exact ⟨_, _, _, rfl⟩
  have h0 := hf 0 _ rfl
  have h1 := hf 1 _ rfl
  have h2 := hf 2 _ rfl
  simp only [List.map_cons, List.map_nil, uptoBulk, uptoBulkAll] at hb
  obtain ⟨b, _, e0⟩ := DataW.trod_bool Tryz.underlying4 h0
  obtain ⟨u, e1, d1, l1⟩ := dec_u32s (x := x1) h1 (by omega)
  obtain ⟨v, e2, d2, l2⟩ := dec_u32s (x := x2) h2 (by omega)
  subst e0
  exact ⟨⟨b, u, v⟩, by simp [avD, avL, e1, e2, Rt.cells], ⟨d1, d2, by show u.length < _; omega, by show v.length < _; omega⟩⟩
theorem dec_expr : ∀ (n : Nat) (cs : List Value) (x : DataW H × List MemPlace), trodS enc w base spare held n 27 cs = some x → uptoBulk x.1 ≤ 1048576 → ∃ e : Xp, avD x.1 = e.cells ∧ e.ok := by
  intro n
  induction n using Nat.strongRecOn with
  | _ n ih =>
    intro cs x h hb
    obtain ⟨xs, m, rfl, rfl, hl, hn, hf⟩ := DataW.trod_struct Tryz.underlying27 h
    obtain ⟨x0, x1, x2, x3, x4, rfl⟩ : ∃ a b c d e, xs = [a, b, c, d, e] := by
      match xs, hn with
      | [a, b, c, d, e], _ => exact ⟨_, _, _, _, _, rfl⟩
    have h0 := hf 0 _ rfl
    have h1 := hf 1 _ rfl
    have h2 := hf 2 _ rfl
    have h3 := hf 3 _ rfl
    have h4 := hf 4 _ rfl
    simp only [List.map_cons, List.map_nil, uptoBulk, uptoBulkAll] at hb
    obtain ⟨op, _, e0, _⟩ := DataW.trod_int Tryz.underlying3 h0
    obtain ⟨ar, _, e1, _⟩ := DataW.trod_int Tryz.underlying3 h1
    obtain ⟨r, e2, r2⟩ := dec_rat (x := x2) h2 (by omega)
    obtain ⟨s, _, e3, _⟩ := DataW.trod_string Tryz.underlying9 h3
    obtain ⟨ks, e4, k4, kl⟩ := dec_slice (x := x4) (bound := 1048576) (f := Xp.cells) (ok := Xp.ok) Tryz.underlying25 h4 (by omega) fun m' cs' y hm hy hyb => ih m' (by omega) cs' y hy (by omega)
    subst e0 e1 e3
    simp only [uptoBulk] at hb
    have hfl : ∀ l : List Xp, l.flatMap Xp.cells = Xp.cellsL l := fun l => by
      induction l with
      | nil => rfl
      | cons a l ih => simp [Xp.cellsL, ih]
    have hok : ∀ l : List Xp, (∀ a ∈ l, a.ok) → Xp.okL l := fun l => by
      induction l with
      | nil => intro _; simp [Xp.okL]
      | cons a l ih => intro hl; simp only [Xp.okL]; exact ⟨hl a (by simp), ih fun b hb => hl b (by simp [hb])⟩
    refine ⟨.mk op ar r s.data.toList ks, ?_, ?_⟩
    · simp [avD, avL, e2, e4, Rt.cells, Xp.cells, hfl]
    · simp only [Xp.ok]; exact ⟨r2, by simp at hb ⊢; omega, by omega, hok ks k4⟩
theorem dec_iv (h : trodS enc w base spare held n 39 cs = some x) (hb : uptoBulk x.1 ≤ 1048576) : ∃ v : Iv, avD x.1 = v.cells ∧ v.ok := by
  obtain ⟨xs, m, rfl, rfl, hl, hn, hf⟩ := DataW.trod_struct Tryz.underlying39 h
  obtain ⟨x0, x1, x2, x3, rfl⟩ : ∃ a b c d, xs = [a, b, c, d] := by
    match xs, hn with
    | [a, b, c, d], _ => exact ⟨_, _, _, _, rfl⟩
  have h0 := hf 0 _ rfl
  have h1 := hf 1 _ rfl
  have h2 := hf 2 _ rfl
  have h3 := hf 3 _ rfl
  simp only [List.map_cons, List.map_nil, uptoBulk, uptoBulkAll] at hb
  obtain ⟨lo, e0, r0⟩ := dec_rat (x := x0) h0 (by omega)
  obtain ⟨hi, e1, r1⟩ := dec_rat (x := x1) h1 (by omega)
  obtain ⟨b2, _, e2⟩ := DataW.trod_bool Tryz.underlying4 h2
  obtain ⟨b3, _, e3⟩ := DataW.trod_bool Tryz.underlying4 h3
  subst e2 e3
  exact ⟨⟨lo, hi, b2, b3⟩, by simp [avD, avL, e0, e1, Rt.cells, Iv.cells], ⟨r0, r1⟩⟩
theorem dec_sd (h : trodS enc w base spare held n 41 cs = some x) (hb : uptoBulk x.1 ≤ 1048576) : ∃ s : Sd, avD x.1 = s.cells ∧ s.ok := by
  obtain ⟨xs, m, rfl, rfl, hl, hn, hf⟩ := DataW.trod_struct Tryz.underlying41 h
  obtain ⟨x0, x1, rfl⟩ : ∃ a b, xs = [a, b] := by
    match xs, hn with
    | [a, b], _ => exact ⟨_, _, rfl⟩
  have h0 := hf 0 _ rfl
  have h1 := hf 1 _ rfl
  simp only [List.map_cons, List.map_nil, uptoBulk, uptoBulkAll] at hb
  obtain ⟨s, _, e0, _⟩ := DataW.trod_string Tryz.underlying9 h0
  obtain ⟨v, e1, r1⟩ := dec_iv (x := x1) h1 (by omega)
  subst e0
  simp only [uptoBulk] at hb
  exact ⟨⟨s.data.toList, v⟩, by simp [avD, avL, e1, Sd.cells], ⟨r1, by simp at hb ⊢; omega⟩⟩
theorem dec_cd (h : trodS enc w base spare held n 93 cs = some x) (hb : uptoBulk x.1 ≤ 1048576) : ∃ k : Cd, avD x.1 = k.cells ∧ k.e.ok := by
  obtain ⟨xs, m, rfl, rfl, hl, hn, hf⟩ := DataW.trod_struct Tryz.underlying93 h
  obtain ⟨x0, x1, rfl⟩ : ∃ a b, xs = [a, b] := by
    match xs, hn with
    | [a, b], _ => exact ⟨_, _, rfl⟩
  have h0 := hf 0 _ rfl
  have h1 := hf 1 _ rfl
  simp only [List.map_cons, List.map_nil, uptoBulk, uptoBulkAll] at hb
  obtain ⟨e, e0, r0⟩ := dec_expr _ _ x0 h0 (by omega)
  obtain ⟨b, _, e1⟩ := DataW.trod_bool Tryz.underlying4 h1
  subst e1
  exact ⟨⟨e, b⟩, by simp [avD, avL, e0, Cd.cells], r0⟩
theorem dec_cl (h : trodS enc w base spare held n 31 cs = some x) (hb : uptoBulk x.1 ≤ 1048576) : ∃ c : Cl, avD x.1 = c.cells ∧ c.ok := by
  obtain ⟨xs, m, rfl, rfl, hl, hn, hf⟩ := DataW.trod_struct Tryz.underlying31 h
  obtain ⟨x0, x1, x2, x3, rfl⟩ : ∃ a b c d, xs = [a, b, c, d] := by
    match xs, hn with
    | [a, b, c, d], _ => exact ⟨_, _, _, _, rfl⟩
  have h0 := hf 0 _ rfl
  have h1 := hf 1 _ rfl
  have h2 := hf 2 _ rfl
  have h3 := hf 3 _ rfl
  simp only [List.map_cons, List.map_nil, uptoBulk, uptoBulkAll] at hb
  obtain ⟨e, e0, r0⟩ := dec_expr _ _ x0 h0 (by omega)
  obtain ⟨b, _, e1⟩ := DataW.trod_bool Tryz.underlying4 h1
  obtain ⟨bx, e2, r2, l2⟩ := dec_slice (x := x2) (bound := 1048576) (f := Sd.cells) (ok := Sd.ok) Tryz.underlying28 h2 (by omega) fun m' cs' y hm hy hyb => dec_sd hy (by omega)
  obtain ⟨cd, e3, r3, l3⟩ := dec_slice (x := x3) (bound := 1048576) (f := Cd.cells) (ok := fun k => k.e.ok) Tryz.underlying29 h3 (by omega) fun m' cs' y hm hy hyb => dec_cd hy (by omega)
  subst e1
  exact ⟨⟨e, b, bx, cd⟩, by simp [avD, avL, e0, e2, e3, Cl.cells, cat], ⟨r0, r2, by show bx.length < _; omega, r3, by show cd.length < _; omega⟩⟩
end
end Go.Am
end
