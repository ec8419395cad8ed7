/- Parts of the proof. -/
import Derived.Sort.KeysCollected
import Derived.Test.YtjilaaoaebglbaaGreatDoorA15
import Derived.Test.YtjilaaoaebglbaaGreatDoorA16
set_option linter.unusedVariables false
set_option linter.unusedSimpArgs false
set_option linter.unnecessarySimpa false
set_option linter.unusedSectionVars false
section
namespace Go.Am
open Go Go.Proofs Go.RowKit Go.Shelf Go.Maps Go.Sort
attribute [local go_sem] Oper.semAt_some
theorem room_none {F : Fence} (hd : F.depth = none) (k : Nat) : F.room k := fun d h => by rw [hd] at h; cases h
theorem round_any {F : Fence} (hd : F.depth = none) {m m' : Nat} {P : Program} {l : Nat} {f : FuncId} {tmps : Array Value} {assign body : Code} {w : World} {R : Ending → World → Prop}
    (h : RoundIn F m P l f tmps assign body w R) : RoundIn F m' P l f tmps assign body w R := ⟨h.1, fun c cs _ => h.2 c cs (room_none hd _)⟩
theorem yield_any {F : Fence} (hd : F.depth = none) {m : Nat} (m' : Nat) {P : Program} {l : Nat} {args : Array Value} {W : World} {R : Ending → World → Prop} (h : YieldAt F m P l args W R) : YieldAt F m' P l args W R := by
  obtain ⟨fn, tmps, assign, body, hy, hR⟩ := h
  exact ⟨fn, tmps, assign, body, hy, round_any hd hR⟩
set_option maxRecDepth 100000 in
set_option maxHeartbeats 1000000 in
theorem nodes_stops (F : Fence) (hd : F.depth = none) (n : Nat) (h311 : F.fn 311) (h312 : F.fn 312) (hro : F.round = none) (Bt n₀ : Nat) (S : Nat → Prop) (hS : ∀ c, S c → c < n₀) (x : Xp) (hok : x.ok) (d : Nd) (w : World) (hBt : Bt < w.heap.size) (hn₀ : n₀ ≤ w.heap.size)
    (hc : w.heap[Bt]? = some (.cells d.l.toArray 27 (0, 0))) (hT : srepL S w x.cells d.l) :
    SeqStopsK F n Tryz.prog 311 #[.pointer (some ⟨Bt, 0, none⟩)] Nd.enc (Kc n₀) (fun ys => ys.map Nd.key = x.pre) (fun _ => True) x.pre.length w := fun l J Jx W hW hJ _ hY h0 => by
  have hdd : ∀ k : Nat, (F.depth.isSome = true → 1 ≤ k) := fun k h => by rw [hd] at h; cases h
  have hsz := hW.size
  have he := each_in F hd h312 hro l n₀ x.pre.length W.heap.size J Jx hJ S hS (fun m pre x W hj hl _ => yield_any hd m (hY pre x W hj hl)) (SizeOf.sizeOf x) x (Nat.le_refl _) hok (n - 1) d [] W
    (srepL_ext (fun _ h => h) (fun c hc => hW.block c (Nat.lt_of_lt_of_le (hS c hc) hn₀)) _ _ hT) h0 (by omega) (by simp)
  have hcW : W.heap[Bt]? = some (.cells d.l.toArray 27 (0, 0)) := (hW.block Bt hBt).trans hc
  have hc0 : ∀ j u, d.l[j]? = some u → W.cell? ⟨Bt, j, none⟩ = some u := fun j u h => by simp only [World.cell?, hcW]; simpa using h
  have c0 := hc0 0 _ rfl
  have c1 := hc0 1 _ rfl
  have c2 := hc0 2 _ rfl
  have c3 := hc0 3 _ rfl
  have c4 := hc0 4 _ rfl
  have c5 := hc0 5 _ rfl
  have c6 := hc0 6 _ rfl
  simp only [Nd.l] at he
  clear hc0 hcW hc hT hY h0
  refine callsIn_of_wp Tryz.func311 rfl h311 ?_ hro
  simp only [Tryz.ntmps311, List.size_toArray, List.length_cons, List.length_nil, Nat.reduceAdd, Nat.reduceSub, Array.replicate_succ, Array.replicate_zero, List.push_toArray, List.append_toArray, List.nil_append, List.cons_append]
  gi_wp2_with ((try refine ⟨hdd _, ?_⟩); gi_at_call 312; refine he.mono ?_; clear he; rintro e W1 (⟨rfl, ys, hy1, hy2, _⟩ | ⟨rfl, q, hq⟩))
  · go_end0
    exact ⟨⟨_, rfl⟩, .inl ⟨ys, hy1, by simpa using hy2⟩⟩
  · go_end0
    exact ⟨⟨_, rfl⟩, .inr ⟨q, trivial, hq⟩⟩
theorem cell_al {W : World} {a : Addr} {v : Value} (o : Obj) (h : W.cell? a = some v) : (W.alloc o).cell? a = some v := cell_kept h (World.grownBy_alloc W o none) (fun r e => by cases e)
def namesD (xs : List Nd) : DataW Unit := xs.foldl (fun D x => if x.op = 2 then D.put (.string x.name) (.lit (.bool true)) else D) (.map [])
theorem namesD_snoc (pre : List Nd) (x : Nd) : namesD (pre ++ [x]) = if x.op = 2 then (namesD pre).put (.string x.name) (.lit (.bool true)) else namesD pre := by simp [namesD]
set_option maxRecDepth 100000 in
set_option maxHeartbeats 4000000 in
theorem vars_walk (x : Xp) (hok : x.ok) (d : Nd) (S : Nat → Prop) (w : World) (hS : ∀ c, S c → c < w.heap.size) (hr : srepL S w x.cells d.l) (hlen : x.pre.length < 1000000000)
    (hval : ∀ W, Below w.heap.size w W → Calls Tryz.prog 77 #[.agg d.l.toArray] W fun e W' => e = .returned (.bool true) ∧ Below W.heap.size W W') :
    Calls Tryz.prog 136 #[.agg d.l.toArray] w fun e w' => ∃ (v : Value) (ss : List (List UInt8)) (ys : List Nd), e = .returned (.tuple #[v, .int .i64 0]) ∧ ys.map Nd.key = x.pre ∧ ss.Perm (strKeys (namesD ys)) ∧
      (∃ b, w'.ownsMap Tryz.prog 9 (plainElem Tryz.prog 4) b ys.length (namesD ys)) ∧
      w'.ownsRow w.heap.size 9 1 v ss.length ((ss.mergeSort leB).map encStr) ∧ Below w.heap.size w w' := by
  refine (callsIn_wide (n := 6)).1 ?_
  have hmm := @run_makeMap Tryz.prog
  have hfK : Fence.wide.fn 231 := trivial
  have hfS : Fence.wide.fn 230 := trivial
  have hf77 : Fence.wide.fn 77 := trivial
  have hf229 : Fence.wide.fn 229 := trivial
  have hvalB := hval (w.alloc (.cells d.l.toArray 27)) ((Below.refl _ w).alloc (Nat.le_refl _) _)
  have c6 := fun (W' : World) (h : Below (w.alloc (.cells d.l.toArray 27)).heap.size (w.alloc (.cells d.l.toArray 27)) W') => (h.block w.heap.size (by simp)).trans (World.alloc_heap_new w (.cells d.l.toArray 27))
  have hvalC : CallsIn Fence.wide 5 Tryz.prog 77 #[.agg d.l.toArray] (w.alloc (.cells d.l.toArray 27)) fun e W' => e = .returned (.bool true) ∧ Below (w.alloc (.cells d.l.toArray 27)).heap.size (w.alloc (.cells d.l.toArray 27)) W' ∧ (∀ (j : Nat) (u : Value), d.l[j]? = some u → W'.cell? ⟨w.heap.size, j, none⟩ = some u) := callsIn_wide.2 (hvalB.mono fun e W' h => ⟨h.1, h.2, fun j u hj => by simp only [World.cell?, c6 W' h.2]; simpa using hj⟩)
  clear hvalB hval c6
  simp only [Nd.l] at hvalC
  refine callsIn_of_wp_marks Tryz.func136 rfl trivial ?_ rfl
  simp only [Nd.l, Tryz.ntmps136, List.size_toArray, List.length_cons, List.length_nil, Nat.reduceAdd, Nat.reduceSub, Array.replicate_succ, Array.replicate_zero, List.push_toArray, List.append_toArray, List.nil_append, List.cons_append]
  gi_wp2_with (first
    | (gi_at_call 77; refine hvalC.mono ?_; clear hvalC; rintro e W1 ⟨rfl, hB1, hcells⟩; have hcc : ∀ (o1 o2 : Obj) (j : Nat) (u : Value), d.l[j]? = some u → ((W1.alloc o1).alloc o2).cell? ⟨w.heap.size, j, none⟩ = some u := fun o1 o2 j u h => cell_al _ (cell_al _ (hcells j u h)); have c0 := fun o1 o2 => hcc o1 o2 0 _ rfl; have c1 := fun o1 o2 => hcc o1 o2 1 _ rfl; have c2 := fun o1 o2 => hcc o1 o2 2 _ rfl; have c3 := fun o1 o2 => hcc o1 o2 3 _ rfl; have c4 := fun o1 o2 => hcc o1 o2 4 _ rfl; have c5 := fun o1 o2 => hcc o1 o2 5 _ rfl; have c6 := fun o1 o2 => hcc o1 o2 6 _ rfl; clear hcc; clear hcells)
    | (gi_at_call 229; refine (nodes_in Fence.wide _ trivial rfl d _).mono ?_; rintro e w' ⟨rfl, rfl⟩))
  have hsW := hB1.size
  simp only [World.size_alloc] at hsW
  have hB01 : RowKit.Below w.heap.size w W1 := ((Below.refl _ w).alloc (Nat.le_refl _) _).trans (hB1.mono (by simp))
  have hmap0 := World.ownsMap_made W1 Tryz.prog 9 (plainElem (H := Unit) Tryz.prog 4)
  obtain ⟨W0, hW0⟩ : ∃ W0, ((W1.alloc (.map #[] 0)).alloc (.cells #[.map (some W1.heap.size)] 291)).alloc (.cells d.l.toArray 27) = W0 := ⟨_, rfl⟩
  have hsz : W0.heap.size = W1.heap.size + 3 := by rw [← hW0]; simp
  have hm0 : W0.ownsMap Tryz.prog 9 (plainElem (H := Unit) Tryz.prog 4) W1.heap.size 0 (namesD []) := by rw [← hW0]; exact (hmap0.alloc _).alloc _
  have bM : Boxed W0 (W1.heap.size + 1) 291 (.map (some W1.heap.size)) := by
    have h := (Boxed.new (W1.alloc (.map #[] 0)) 291 (.map (some W1.heap.size))).alloc (.cells d.l.toArray 27)
    rw [hW0, World.size_alloc] at h; exact h
  have hbox : W0.heap[W1.heap.size + 1 + 1]? = some (.cells d.l.toArray 27 (0, 0)) := by
    have h := World.alloc_heap_new ((W1.alloc (.map #[] 0)).alloc (.cells #[.map (some W1.heap.size)] 291)) (.cells d.l.toArray 27)
    rw [hW0, World.size_alloc, World.size_alloc] at h; exact h
  have hB0 : RowKit.Below w.heap.size w W0 := by
    rw [← hW0]; exact ((hB01.alloc hB01.size _).alloc (by simp; omega) _).alloc (by simp; omega) _
  have hr0 : srepL S W0 x.cells d.l := srepL_ext (fun _ h => h) (fun c hc => hB0.block c (hS c hc)) _ _ hr
  rw [hW0]
  clear hW0 c0 c1 c2 c3 c4 c5 c6 hr hmap0
  refine wpIn_rangeFunc_ownH rfl (by decide) (gf := 311) (lb := #[.pointer (some ⟨W1.heap.size + 1 + 1, 0, none⟩)]) rfl trivial (enters_of Tryz.func311 (by kernel_rfl) rfl)
    (nodes_stops Fence.wide rfl _ trivial trivial rfl (W1.heap.size + 1 + 1) w.heap.size S hS x hok d W0 (by omega) (by omega) hbox hr0) kc_t (kc_b (by omega)) (Below.refl _ _) (fun _ => rfl)
    (fun pre W => (Boxed W (W1.heap.size + 1) 291 (.map (some W1.heap.size)) ∧ W.ownsMap Tryz.prog 9 (plainElem (H := Unit) Tryz.prog 4) W1.heap.size pre.length (namesD pre)) ∧ RowKit.Below w.heap.size w W)
    (fun _ _ _ => False)
    (OwnFrom.and (OwnFrom.and (Own.from (boxed_own (W1.heap.size + 1) 291 (fun _ => .map (some W1.heap.size))) _) (fun s A B row hs hg hr => hs.kept hg (fun e => by have := (hr _ e.symm).1; omega))) (ownFrom_below (Nat.le_refl _) (by omega)))
    (fun _ _ _ _ _ hs _ _ => hs)
    ⟨⟨bM, hm0⟩, hB0⟩
    (fun y a' W => ∃ Bx, W.heap[Bx]? = some (.cells y.l.toArray 27 (0, 0)) ∧ a' = { tmps := #[.agg d.l.toArray, .pointer (some ⟨w.heap.size, 0, none⟩), .slice none 0 0, .int .i64 0, .pointer (some ⟨W1.heap.size + 1, 0, none⟩), .pointer (some ⟨Bx, 0, none⟩), .agg d.l.toArray, .bool true, .bool false, .map (some W1.heap.size), .agg d.l.toArray, .func (.func 311) #[] #[.pointer (some ⟨W1.heap.size + 1 + 1, 0, none⟩)], .agg y.l.toArray, undef, undef, undef, undef, undef, undef, undef, undef, undef], defers := [] })
    (fun y a' _ A B row hs hg hr => by
      obtain ⟨Bx, h1, h2⟩ := hs
      refine ⟨Bx, ?_, h2⟩
      rw [hg.block Bx (Array.getElem?_eq_some_iff.1 h1).1 (fun e => by obtain ⟨_, o, ho, hc⟩ := hr Bx e.symm; rw [h1] at ho; cases ho; cases hc)]
      exact h1)
    ?assign ?body ?done ?stop
  case assign =>
    rintro l pre y W K ⟨⟨bM1, hm1⟩, hB1'⟩ hK
    simp only [Nd.enc, Nd.l]
    gi_wp2
    exact hK _ _ ((KeepsOthers.alloc _ _).from _) (Kc.of_grown hB1'.size (World.grownBy_alloc W _ none)) ⟨⟨bM1.alloc _, hm1.alloc _⟩, hB1'.alloc hB1'.size _⟩ ⟨W.heap.size, World.alloc_heap_new W _, rfl⟩
  case body =>
    rintro l pre y a' W _ _ ⟨⟨bM1, hown⟩, hB⟩ ⟨Bx, hbx, rfl⟩ hlt
    have cM := bM1.cell
    have hc : ∀ (j : Nat) (u : Value), y.l[j]? = some u → W.cell? ⟨Bx, j, none⟩ = some u := fun j u h => by simp only [World.cell?, hbx]; simpa using h
    have c0 := hc 0 _ rfl
    have c5 := hc 5 _ rfl
    clear hc
    have hkey : keyOf Tryz.prog 9 (.string ⟨y.name.toArray⟩) = some (.string y.name) := by
      have := y.hn
      simp [keyOf, Tryz.underlying9, mapKey]
      show y.name.toArray.size ≤ maxLen
      simpa using this
    have hlen2 : pre.length < maxLen := by unfold maxLen; omega
    gi_wp2_with (gi_at_mapUpdate; refine wpListIn_mapUpdate_own _ rfl _ _ _ 291 rfl 9 4 (Maps.string_keyed Tryz.underlying9) Tryz.underlying291 _ W1.heap.size pre.length _ rfl hown hlen2 _ _ _ rfl rfl hkey _ [] (plainElem_bool Tryz.underlying4 true) ?_; intro w1 hown1 hgrow1)
    · have hop : y.op = 2 := by
        have hb : (y.op == 2) = true := by assumption
        exact eq_of_beq hb
      obtain ⟨es, ck, hh, _⟩ := hown
      exact ⟨KeepsFrom.of_grownBy hgrow1 (fun j e => by cases e; omega), ⟨(Below.refl _ W).grown hgrow1 hB.size (fun k e => by cases e; omega), fun k c t fr hk => by rw [hgrow1.block k (Array.getElem?_eq_some_iff.1 hk).1 (fun e => by cases e; rw [hh] at hk; cases hk)]; exact hk⟩,
        ⟨bM1.kept hgrow1 (by intro e; injection e with e; omega), by rw [namesD_snoc, if_pos hop, List.length_append]; exact hown1⟩, hB.grown hgrow1 hB.size (fun k e => by cases e; omega)⟩
    · have hop : ¬ y.op = 2 := by
        have hb : (y.op == 2) = false := by assumption
        intro h; rw [h] at hb; exact absurd hb (by decide)
      exact ⟨KeepsFrom.refl _ _, Kc.refl _ _, ⟨bM1, by rw [namesD_snoc, if_neg hop]; exact hown.mono (by simp)⟩, hB⟩
  case done =>
    rintro D ys W hD hys ⟨⟨bM1, hown⟩, hB⟩ hK
    have cM := bM1.cell
    have hyl : ys.length = x.pre.length := by rw [← hys]; simp
    have hms := hown.size_le
    have hsk := Tryz.slices_Sorted_keys_230_231 W1.heap.size ys.length (namesD ys) (plainElem (H := Unit) Tryz.prog 4) W hown (by unfold maxLen; omega) (by omega)
    gi_wp2_with (first
      | (gi_at_call 231; refine (Tryz.maps_Keys_231 _ _).mono ?_; rintro e w' ⟨rfl, rfl⟩)
      | (gi_at_call 230; refine hsk.mono ?_; clear hsk; rintro e w' ⟨v, ss, rfl, hS, hrow, hnil, hb⟩))
    have hsz1 := hb.size
    have hDW : D < W.heap.size := (Array.getElem?_eq_some_iff.1 hK).1
    have hK' : w'.heap[D]? = some (.deferred (some [])) := (hb.block D (by simp; omega)).trans ((Below.heap_alloc _ _ _ hDW).trans hK)
    have hown' : w'.ownsMap Tryz.prog 9 (plainElem (H := Unit) Tryz.prog 4) W1.heap.size ys.length (namesD ys) := by
      obtain ⟨es, ck, hh, hrest⟩ := hown
      exact ⟨es, ck, (hb.block _ (by have := (Array.getElem?_eq_some_iff.1 hh).1; simp; omega)).trans ((Below.heap_alloc _ _ _ (Array.getElem?_eq_some_iff.1 hh).1).trans hh), hrest⟩
    refine ⟨by simp, .inl ⟨_, _, rfl, run_takeDeferred hK', ?_⟩⟩
    refine ⟨_, results_tmp2 rfl _ _ _, v, ss, ys, rfl, hys, hS, ⟨_, hown'.kept (grownBy_putObj' _ D _) (fun e => by cases e; omega)⟩, ownsRow_putObj (ownsRow_base_a hrow (by have := hB.size; simp; omega)) _ hK' rfl, ?_⟩
    exact ((hB.alloc hB.size _).trans (hb.mono (by have := hB.size; simp; omega))).trans (belowK_b (w := w) (Nat.le_refl _) w' D _ _ (by omega) hK' rfl rfl)
  case stop =>
    rintro D c pre W _ _ h _
    exact h.elim
end Go.Am
end
