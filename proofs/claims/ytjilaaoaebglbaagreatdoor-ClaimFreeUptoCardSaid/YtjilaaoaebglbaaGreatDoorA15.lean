/- Parts of the proof. -/
import Derived.RangeFuncNested
import Derived.RangeFuncBound
import Derived.RangeFuncCalls
import Derived.RangeFuncLeaves
import Derived.Shelf.Abstract
import Derived.Shelf.RegionOpen
import Derived.WalkKit
import Derived.OwnWalkIn
import Derived.TacticsInMore
import Derived.LoopNIn
import Derived.LoopIn
import Derived.Maps.OwnIn
import Derived.Test.YtjilaaoaebglbaaGreatDoorProg
import Derived.Test.YtjilaaoaebglbaaGreatDoorA10
import Derived.Test.YtjilaaoaebglbaaGreatDoorA14
set_option linter.unusedVariables false
set_option linter.unusedSimpArgs false
set_option linter.unnecessarySimpa false
set_option linter.unusedSectionVars false
section
namespace Go.Am
open Go Go.Proofs Go.RowKit Go.Shelf
attribute [local go_sem] Oper.semAt_some
structure Nd where
  op : Int
  arg : Int
  neg : Bool
  a : Option Addr
  n : Nat
  c : Nat
  a' : Option Addr
  n' : Nat
  c' : Nat
  name : List UInt8
  ka : Option Addr
  kn : Nat
  kc : Nat
  hn : name.length ≤ maxLen
def Nd.l (x : Nd) : List Value := [.int .i64 x.op, .int .i64 x.arg, .bool x.neg, .slice x.a x.n x.c, .slice x.a' x.n' x.c', .string ⟨x.name.toArray⟩, .slice x.ka x.kn x.kc]
def Nd.enc (x : Nd) : Array Value := #[.agg x.l.toArray]
def Nd.key (x : Nd) : Int × List UInt8 := (x.op, x.name)
set_option maxRecDepth 100000 in
set_option maxHeartbeats 1000000 in
theorem nodes_in (F : Fence) (n : Nat) (h5 : F.fn 229) (hro : F.round = none) (x : Nd) (w : World) :
    CallsIn F n Tryz.prog 229 #[.agg x.l.toArray] w fun e w' => e = .returned (.func (.func 311) #[] #[.pointer (some ⟨w.heap.size, 0, none⟩)]) ∧ w' = w.alloc (.cells x.l.toArray 27) := by
  refine callsIn_of_wp Tryz.func229 rfl h5 ?_ hro
  simp only [Tryz.ntmps229, List.size_toArray, List.length_cons, List.length_nil, Nat.reduceAdd, Nat.reduceSub, Array.replicate_succ, Array.replicate_zero, List.push_toArray, List.append_toArray, List.nil_append, List.cons_append]
  gi_wp2
  go_ret
  exact ⟨rfl, rfl⟩
mutual
def Xp.pre : Xp → List (Int × List UInt8)
  | .mk op arg r name kids => (op, name) :: Xp.preL kids
def Xp.preL : List Xp → List (Int × List UInt8)
  | [] => []
  | x :: l => x.pre ++ Xp.preL l
end
theorem Xp.preL_append : ∀ l m : List Xp, Xp.preL (l ++ m) = Xp.preL l ++ Xp.preL m
  | [], m => rfl
  | x :: l, m => by simp [Xp.preL, Xp.preL_append l m]
theorem nd_of_srep {S : Nat → Prop} {W : World} {x : Xp} {l : List Value} (hok : x.ok) (h : srepL S W x.cells l) : ∃ d : Nd, l = d.l ∧ d.key = (match x with | .mk op _ _ name _ => (op, name)) := by
  cases x with
  | mk op arg r name kids =>
    simp only [Xp.cells, srepL, srep, R32] at h
    simp only [Xp.ok] at hok
    obtain ⟨_, _, rfl, rfl, _, _, rfl, rfl, _, _, rfl, rfl, _, _, rfl, ⟨A, c, rfl, _⟩, _, _, rfl, ⟨A', c', rfl, _⟩, _, _, rfl, rfl, _, _, rfl, ⟨A2, c2, rfl, _⟩, rfl⟩ := h
    exact ⟨⟨op, arg, r.neg, A, _, c, A', _, c', name, A2, _, c2, by have := hok.2.1; unfold maxLen; omega⟩, rfl, rfl⟩
theorem key_of_srep {S : Nat → Prop} {W : World} {op arg : Int} {r : Rt} {name : List UInt8} {kids : List Xp} {d : Nd} (h : srepL S W (Xp.mk op arg r name kids).cells d.l) : d.key = (op, name) := by
  simp only [Xp.cells, srepL, srep, R32, Nd.l] at h
  obtain ⟨v1, _, h1, e1, v2, _, h2, -, v3, _, h3, -, _, _, h4, -, _, _, h5, -, v6, _, h6, e6, _, _, h7, -, hnil⟩ := h
  subst h2; subst h3; subst h4; subst h5; subst h6; subst h7
  simp only [List.cons.injEq] at h1
  obtain ⟨h1, -, -, -, -, h6, -⟩ := h1
  rw [e1] at h1; rw [e6] at h6
  simp only [Value.int.injEq, Value.string.injEq] at h1 h6
  have : d.name = name := by simpa using h6
  unfold Nd.key
  rw [h1.2, this]
theorem kid_of_srep {S : Nat → Prop} {W : World} {op arg : Int} {r : Rt} {name : List UInt8} {kids : List Xp} {d : Nd} (h : srepL S W (Xp.mk op arg r name kids).cells d.l) :
    d.kn = kids.length ∧ d.kn ≤ d.kc ∧ (kids ≠ [] → ∃ b o, d.ka = some ⟨b, o, none⟩ ∧ S b ∧ srepC S W (Xp.cellsL kids) b o) := by
  simp only [Xp.cells, srepL, srep, R32, Nd.l] at h
  obtain ⟨_, _, h1, -, _, _, h2, -, _, _, h3, -, _, _, h4, -, _, _, h5, -, _, _, h6, -, _, _, h7, ⟨A2, c2, hv, hc, hh⟩, hnil⟩ := h
  simp only [List.cons.injEq] at h1 h2 h3 h4 h5 h6 h7
  obtain ⟨-, h1⟩ := h1
  rw [← h1] at h2; simp only [List.cons.injEq] at h2; obtain ⟨-, h2⟩ := h2
  rw [← h2] at h3; simp only [List.cons.injEq] at h3; obtain ⟨-, h3⟩ := h3
  rw [← h3] at h4; simp only [List.cons.injEq] at h4; obtain ⟨-, h4⟩ := h4
  rw [← h4] at h5; simp only [List.cons.injEq] at h5; obtain ⟨-, h5⟩ := h5
  rw [← h5] at h6; simp only [List.cons.injEq] at h6; obtain ⟨-, h6⟩ := h6
  rw [← h6] at h7; simp only [List.cons.injEq] at h7; obtain ⟨h7, -⟩ := h7
  rw [hv] at h7
  simp only [Value.slice.injEq] at h7
  obtain ⟨e1, e2, e3⟩ := h7
  refine ⟨e2, by omega, fun hne => ?_⟩
  rcases hh with ⟨h0, _⟩ | ⟨b, o, h1, h2, h3⟩
  · exact absurd (List.eq_nil_of_length_eq_zero h0) hne
  · exact ⟨b, o, e1.trans h1, h2, h3⟩
theorem srepC_kid {S : Nat → Prop} {W : World} {b : Nat} : ∀ {kids : List Xp} {o i : Nat} {y : Xp}, srepC S W (Xp.cellsL kids) b o → kids[i]? = some y → srepC S W y.cells b (o + 7 * i) := by
  intro kids
  induction kids with
  | nil => intro o i y h hy; simp at hy
  | cons x l ih =>
    intro o i y h hy
    have hl : x.cells.length = 7 := by cases x; rfl
    cases i with
    | zero =>
      simp at hy; subst hy
      have := srepC_take h 7
      simpa [Xp.cellsL, List.take_append, hl, List.take_of_length_le (Nat.le_of_eq hl)] using this
    | succ i =>
      have := srepC_drop h 7
      simp only [Xp.cellsL] at this
      rw [List.drop_left' hl] at this
      have := ih this (by simpa using hy)
      rwa [show o + 7 + 7 * i = o + 7 * (i + 1) by omega] at this
theorem cell_box (W : World) (c : Array Value) (t : TypeId) (j : Nat) : (W.alloc (.cells c t)).cell? ⟨W.heap.size, j, none⟩ = c[j]? := by
  have h : (W.alloc (.cells c t)).heap[W.heap.size]? = some (.cells c t (0, 0)) := World.alloc_heap_new W (.cells c t)
  simp only [World.cell?, h]; rfl
theorem wrap64_succ {k : Nat} (h : k < 1000000000) : Go.RowKit.wrap64 ((k : Int) + 1) = ((k + 1 : Nat) : Int) := by unfold Go.RowKit.wrap64; omega
def intOfV : Value → Int
  | .int _ i => i
  | _ => 0
theorem Xp.ok_kids {op arg : Int} {r : Rt} {name : List UInt8} {kids : List Xp} {m : Nat} (h : kids.length = m) (hok : (Xp.mk op arg r name kids).ok) : m < 1000000000 := by
  simp only [Xp.ok] at hok; rw [← h]; exact hok.2.2.1
theorem meas_succ {k m : Nat} (h : k < m) (h2 : m < 1000000000) : m - (intOfV (.int .i64 (Go.RowKit.wrap64 ((k : Int) + 1)))).toNat < m - (intOfV (.int .i64 (k : Int))).toNat := by
  rw [wrap64_succ (by omega)]; simp only [intOfV, Int.toNat_natCast]; omega
structure Kc (n₀ : Nat) (W W' : World) : Prop where
  bel : Below n₀ W W'
  cells : ∀ (k : Nat) (c : Array Value) (t : TypeId) (fr : Nat × Nat), W.heap[k]? = some (.cells c t fr) → W'.heap[k]? = some (.cells c t fr)
theorem Kc.refl (n₀ : Nat) (W : World) : Kc n₀ W W := ⟨Below.refl _ _, fun _ _ _ _ h => h⟩
theorem Kc.trans {n₀ : Nat} {A B C : World} (h : Kc n₀ A B) (k : Kc n₀ B C) : Kc n₀ A C := ⟨h.bel.trans k.bel, fun i c t fr hi => k.cells i c t fr (h.cells i c t fr hi)⟩
theorem Kc.of_grown {n₀ : Nat} {A B : World} (hn : n₀ ≤ A.heap.size) (h : A.grownBy B none) : Kc n₀ A B :=
  ⟨⟨h.os, h.tape, h.output, h.size, fun k hk => h.block k (by omega) (by simp)⟩, fun k c t fr hk => by rw [h.block k (Array.getElem?_eq_some_iff.1 hk).1 (by simp)]; exact hk⟩
theorem Kc.cell {n₀ : Nat} {A B : World} (h : Kc n₀ A B) {a : Addr} {v : Value} (hc : A.cell? a = some v) : B.cell? a = some v := by
  simp only [World.cell?] at hc ⊢
  split at hc
  · rename_i c t fr hk
    rw [h.cells _ _ _ _ hk]; exact hc
  · cases hc
theorem kc_t {n₀ : Nat} {A B C : World} (h : Kc n₀ A B) (k : Kc n₀ B C) : Kc n₀ A C := h.trans k
theorem kc_b {n₀ : Nat} {w : World} (hn : n₀ ≤ w.heap.size) (W : World) (l : Nat) (o o' : Obj) (hl : w.heap.size ≤ l) (h : W.heap[l]? = some o) (ho : o.isCells = false) (h2 : o.isWalk = false) : Kc n₀ W (W.putObj l o') :=
  ⟨belowK_b hn W l o o' hl h ho h2, fun k c t fr hk => by
    rw [(grownBy_putObj' W l o').block k (Array.getElem?_eq_some_iff.1 hk).1 (fun e => by cases e; rw [h] at hk; cases hk; simp [Obj.isCells] at ho)]; exact hk⟩
set_option maxRecDepth 100000 in
set_option maxHeartbeats 4000000 in
theorem each_in (F : Fence) (hd : F.depth = none) (h312 : F.fn 312) (hro : F.round = none) (l n₀ N B : Nat) (J Jx : List Nd → World → Prop) (hJ : AbidesFrom B J) (S : Nat → Prop) (hS : ∀ c, S c → c < n₀)
    (hY : ∀ m pre x W, J pre W → pre.length < N → n₀ ≤ W.heap.size → YieldAt F m Tryz.prog l x.enc W fun e W' =>
      (e = .returned (.bool true) ∧ J (pre ++ [x]) W' ∧ Kc n₀ W W') ∨ (e = .returned (.bool false) ∧ Jx (pre ++ [x]) W')) :
    ∀ (z : Nat) (x : Xp), SizeOf.sizeOf x ≤ z → x.ok → ∀ (n : Nat) (d : Nd) (pre : List Nd) (W : World), srepL S W x.cells d.l → J pre W → n₀ ≤ W.heap.size → pre.length + x.pre.length ≤ N →
      CallsIn F n Tryz.prog 312 #[.agg d.l.toArray, .func (.yield l) #[] #[]] W fun e W' =>
        (e = .returned (.bool true) ∧ ∃ ys, ys.map Nd.key = x.pre ∧ J (pre ++ ys) W' ∧ Kc n₀ W W') ∨ (e = .returned (.bool false) ∧ ∃ q, Jx q W') := by
  intro z
  induction z with
  | zero => intro x hx; cases x; simp at hx
  | succ z ih =>
    intro x hx hok n d pre W hr hJ0 hn0 hN
    cases x with
    | mk op arg r name kids =>
      obtain ⟨hk1', hk2, hk3⟩ := kid_of_srep hr
      have hdk0 : d.key = (op, name) := key_of_srep hr
      have hk1 := hk1'.symm
      clear hk1'
      have hY2 : YieldAt F (n - 1) Tryz.prog l d.enc (W.alloc (.cells d.l.toArray 27)) fun e W2 => (e = .returned (.bool true) ∧ W2.cell? ⟨W.heap.size, 6, none⟩ = some (.slice d.ka d.kn d.kc) ∧ J (pre ++ [d]) W2 ∧ Kc n₀ W W2) ∨ (e = .returned (.bool false) ∧ Jx (pre ++ [d]) W2) :=
        YieldAt.mono (hY (n - 1) pre d (W.alloc (.cells d.l.toArray 27)) (hJ _ _ _ none hJ0 (World.grownBy_alloc W _ none) (by intro r h; cases h)) (by simp only [Xp.pre, List.length_cons] at hN; omega) (by simp; omega)) fun e W2 h => h.elim
          (fun ⟨he, hj, hk⟩ => .inl ⟨he, hk.cell ((cell_box W _ _ 6).trans rfl), hj, (Kc.of_grown hn0 (World.grownBy_alloc W _ none)).trans hk⟩) .inr
      obtain ⟨fn, tmps, assign, body, hy, hR⟩ := hY2
      have hdd : ∀ k : Nat, (F.depth.isSome = true → 1 ≤ k) := fun k h => by rw [hd] at h; cases h
      obtain ⟨ka, hka0⟩ : ∃ ka, d.ka = ka := ⟨_, rfl⟩
      simp only [Nd.enc, Nd.l, hka0] at hy hR hk3
      refine callsIn_of_wp Tryz.func312 rfl h312 ?_ hro
      simp only [Nd.l, hka0, Tryz.ntmps312, List.size_toArray, List.length_cons, List.length_nil, Nat.reduceAdd, Nat.reduceSub, Array.replicate_succ, Array.replicate_zero, List.push_toArray, List.append_toArray, List.nil_append, List.cons_append]
      gi_wp2_with ((try refine ⟨hdd _, ?_⟩); refine hR.mono ?_; clear hR hy; rintro e W2 (⟨rfl, c6, hJ2, hK2⟩ | ⟨rfl, hx2⟩))
      · gi_loopw [14] (fun iv wr => ∃ (k : Nat) (ys : List Nd), iv = .int .i64 k ∧ k ≤ d.kn ∧ ys.map Nd.key = d.key :: Xp.preL (kids.take k) ∧ J (pre ++ ys) wr ∧ Kc n₀ W wr) (fun iv wr => d.kn - (intOfV iv).toNat)
        case atStart => exact ⟨0, [d], rfl, Nat.zero_le _, by simp [Xp.preL], hJ2, hK2⟩
        case round =>
          obtain ⟨k, ys, rfl, hk, hys, hJr, hKr⟩ := hrel
          by_cases hkl : k < d.kn
          · have hne : kids ≠ [] := by intro h; rw [h] at hk1; simp at hk1; omega
            obtain ⟨b, o, rfl, hSb, hcs⟩ := hk3 hne
            obtain ⟨y, hy⟩ : ∃ y, kids[k]? = some y := ⟨_, List.getElem?_eq_getElem (by omega)⟩
            have hyc := srepC_kid hcs hy
            have hyok : y.ok := Xp.okL_mem (by simp only [Xp.ok] at hok; exact hok.2.2.2) (List.mem_of_getElem? hy)
            have hyz : SizeOf.sizeOf y ≤ z := by have := List.sizeOf_lt_of_mem (List.mem_of_getElem? hy); simp at hx; omega
            obtain ⟨ly, hl1, hl2, hl3, hl4⟩ := srepC_list hyc
            obtain ⟨dy, rfl, hdk⟩ := nd_of_srep hyok hl2
            have hw : ∀ j u, dy.l[j]? = some u → wr.cell? ⟨b, o + k * 7 + j, none⟩ = some u := fun j u h => hKr.cell (by have := hl3 j u h; rwa [Nat.mul_comm 7 k] at this)
            have w0 := hw 0 _ rfl
            rw [Nat.add_zero] at w0
            have w1 := hw 1 _ rfl
            have w2 := hw 2 _ rfl
            have w3 := hw 3 _ rfl
            have w4 := hw 4 _ rfl
            have w5 := hw 5 _ rfl
            have w6 := hw 6 _ rfl
            clear hw hl3 hl4 hl1 hyc hcs hk3 hr c6 hka0
            have htk : kids.take (k + 1) = kids.take k ++ [y] := by rw [List.take_add_one, hy]; rfl
            have hle : (Xp.preL (kids.take k)).length + y.pre.length ≤ (Xp.preL kids).length := by
              have h1 : Xp.preL (kids.take (k + 1)) = Xp.preL (kids.take k) ++ y.pre := by rw [htk, Xp.preL_append]; simp [Xp.preL]
              have h2 := Xp.preL_append (kids.take (k + 1)) (kids.drop (k + 1))
              rw [List.take_append_drop] at h2
              rw [h2, h1]; simp
            have hlen : ys.length = 1 + (Xp.preL (kids.take k)).length := by have := congrArg List.length hys; simp at this; omega
            have ihk := (ih y hyz hyok (n - 1) dy (pre ++ ys) (wr.alloc (.cells dy.l.toArray 27)) (srepL_ext (fun _ h => h) (fun c hc => (((Kc.trans hKr (Kc.of_grown (by have := hKr.bel.size; omega) (World.grownBy_alloc wr _ none))).bel).block c (hS c hc))) _ _ hl2)
              (hJ _ _ _ none hJr (World.grownBy_alloc wr _ none) (by intro r h; cases h)) (by have := hKr.bel.size; simp; omega) (by simp only [Xp.pre, List.length_cons] at hN; simp only [List.length_append]; omega)).mono
                (R' := fun e W' => (e = .returned (.bool true) ∧ ∃ zs, zs.map Nd.key = d.key :: Xp.preL (kids.take (k + 1)) ∧ J (pre ++ zs) W' ∧ Kc n₀ W W') ∨ (e = .returned (.bool false) ∧ ∃ q, Jx q W'))
                (fun e W' h => h.elim (fun ⟨he, zs, hz1, hz2, hz3⟩ => .inl ⟨he, ys ++ zs, by rw [List.map_append, hys, hz1, htk, Xp.preL_append]; simp [Xp.preL], by rw [← List.append_assoc]; exact hz2, hKr.trans ((Kc.of_grown (by have := hKr.bel.size; omega) (World.grownBy_alloc wr _ none)).trans hz3)⟩) .inr)
            simp only [Nd.l] at ihk
            clear ih hY
            gi_wp2_with ((try refine ⟨hdd _, ?_⟩); gi_at_call 312; refine ihk.mono ?_; clear ihk; rintro e W3 (⟨rfl, zs, hz1, hz2, hz3⟩ | ⟨rfl, q, hq⟩))
            · go_roundw
              case rel => exact ⟨k + 1, zs, congrArg (Value.int .i64) (wrap64_succ (Nat.lt_trans hkl (Xp.ok_kids hk1 hok))), hkl, hz1, hz2, hz3⟩
              case measure => exact meas_succ hkl (Xp.ok_kids hk1 hok)
            · go_ret
              exact .inr ⟨rfl, _, hq⟩
          · have hkk : k = kids.length := by omega
            gi_wp2
            go_ret
            refine .inl ⟨rfl, ys, ?_, hJr, hKr⟩
            rw [hys, hkk, List.take_length, hdk0]; rfl
      · go_ret
        exact .inr ⟨rfl, _, hx2⟩
end Go.Am
end
