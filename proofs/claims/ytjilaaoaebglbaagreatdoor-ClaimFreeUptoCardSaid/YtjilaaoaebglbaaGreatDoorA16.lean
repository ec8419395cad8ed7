/- Parts of the proof. -/
import Derived.Shelf.SlIter.Nil
import Derived.Shelf.SortM.Plain
import Derived.Shelf.SortM.SortNone
import Derived.Ground.GgzProg
import Derived.Ground.SlgmProg
import Derived.Test.YtjilaaoaebglbaaGreatDoorProg
set_option linter.unusedVariables false
set_option linter.unusedSimpArgs false
set_option linter.unnecessarySimpa false
set_option linter.unusedSectionVars false
section
namespace Go.Proofs
open Go.RowKit Go.Maps Go.Sort Go.Shelf
def Tryz.keys231_ren : Go.Shelf.Ren := ⟨fun | 7 => 231 | 10 => 315 | n => n, fun | 23 => 291 | 26 => 9 | 3 => 4 | 28 => 296 | 0 => 0 | 27 => 295 | 33 => 42 | 4 => 4 | n => n, fun | n => n⟩
theorem Tryz.keys231 : Go.Proofs.SlLaysZ.n7 Tryz.prog Tryz.keys231_ren := {
  mixed := by kernel_rfl
  f7 := ⟨Tryz.f231.name, by decide, Tryz.func231.trans (congrArg some (by kernel_rfl))⟩
  f10 := ⟨Tryz.f315.name, by decide, Tryz.func315.trans (congrArg some (by kernel_rfl))⟩
  t0 := Tryz.underlying0
  a0 := Tryz.isAgg0
  z0 := Tryz.sizeOf0
  v0 := Tryz.zeroValue0
  t4 := Tryz.underlying4
  a4 := Tryz.isAgg4
  z4 := Tryz.sizeOf4
  v4 := Tryz.zeroValue4
  t23 := Tryz.underlying291
  a23 := Tryz.isAgg291
  z23 := Tryz.sizeOf291
  v23 := Tryz.zeroValue291
  t26 := Tryz.underlying9
  a26 := Tryz.isAgg9
  z26 := Tryz.sizeOf9
  v26 := Tryz.zeroValue9
  t27 := Tryz.underlying295
  a27 := Tryz.isAgg295
  z27 := Tryz.sizeOf295
  v27 := Tryz.zeroValue295
  t28 := Tryz.underlying296
  a28 := Tryz.isAgg296
  z28 := Tryz.sizeOf296
  v28 := Tryz.zeroValue296
  t33 := Tryz.underlying42
  a33 := Tryz.isAgg42
  z33 := Tryz.sizeOf42
  v33 := Tryz.zeroValue42 }
def Tryz.sorted230_ren : Go.Shelf.Ren := ⟨fun | 6 => 230 | 8 => 313 | 9 => 314 | 11 => 374 | 13 => 201 | 12 => 375 | 23 => 296 | 24 => 297 | 14 => 404 | 15 => 405 | 16 => 406 | 17 => 407 | 18 => 408 | 19 => 409 | 20 => 410 | 21 => 411 | 22 => 412 | 25 => 423 | 26 => 359 | 27 => 360 | 28 => 424 | 29 => 425 | 30 => 202 | 31 => 433 | n => n, fun | 26 => 9 | 28 => 296 | 24 => 199 | 0 => 0 | 3 => 3 | 37 => 267 | 48 => 191 | 50 => 256 | 4 => 4 | 40 => 332 | 39 => 331 | 45 => 268 | 5 => 5 | 9 => 9 | 51 => 381 | 55 => 385 | 57 => 420 | 58 => 421 | 33 => 42 | n => n, fun | n => n⟩
theorem Tryz.sorted230 : Go.Proofs.SlLaysZ.n6 Tryz.prog Tryz.sorted230_ren := {
  mixed := by kernel_rfl
  f6 := ⟨Tryz.f230.name, by decide, Tryz.func230.trans (congrArg some (by kernel_rfl))⟩
  f8 := ⟨Tryz.f313.name, by decide, Tryz.func313.trans (congrArg some (by kernel_rfl))⟩
  f11 := ⟨Tryz.f374.name, by decide, Tryz.func374.trans (congrArg some (by kernel_rfl))⟩
  t0 := Tryz.underlying0
  a0 := Tryz.isAgg0
  z0 := Tryz.sizeOf0
  v0 := Tryz.zeroValue0
  t24 := Tryz.underlying199
  a24 := Tryz.isAgg199
  z24 := Tryz.sizeOf199
  v24 := Tryz.zeroValue199
  t26 := Tryz.underlying9
  a26 := Tryz.isAgg9
  z26 := Tryz.sizeOf9
  v26 := Tryz.zeroValue9
  t28 := Tryz.underlying296
  a28 := Tryz.isAgg296
  z28 := Tryz.sizeOf296
  v28 := Tryz.zeroValue296
  i26 := by kernel_rfl }
def Tryz.sort314_ren : Go.Shelf.Ren := ⟨fun | 6 => 314 | 8 => 201 | 9 => 375 | 19 => 296 | 20 => 297 | 21 => 404 | 22 => 405 | 23 => 406 | 24 => 407 | 25 => 408 | 26 => 409 | 27 => 410 | 28 => 411 | 29 => 412 | 36 => 423 | 31 => 359 | 32 => 360 | 37 => 424 | 38 => 425 | 39 => 202 | 41 => 433 | n => n, fun | 27 => 199 | 29 => 9 | 3 => 3 | 32 => 267 | 26 => 199 | 0 => 0 | 44 => 191 | 46 => 256 | 4 => 4 | 36 => 332 | 35 => 331 | 41 => 268 | 5 => 5 | 9 => 9 | 53 => 381 | 57 => 385 | 63 => 420 | 64 => 421 | n => n, fun | n => n⟩
theorem Tryz.sort314 : Go.Proofs.SlLaysM.n6 Tryz.prog Tryz.sort314_ren := {
  mixed := by kernel_rfl
  f6 := ⟨Tryz.f314.name, by decide, Tryz.func314.trans (congrArg some (by kernel_rfl))⟩
  f8 := Tryz.func201.trans (congrArg some (by kernel_rfl))
  f9 := ⟨Tryz.f375.name, by decide, Tryz.func375.trans (congrArg some (by kernel_rfl))⟩
  f19 := Tryz.func296.trans (congrArg some (by kernel_rfl))
  f20 := Tryz.func297.trans (congrArg some (by kernel_rfl))
  f21 := ⟨Tryz.f404.name, by decide, Tryz.func404.trans (congrArg some (by kernel_rfl))⟩
  f22 := ⟨Tryz.f405.name, by decide, Tryz.func405.trans (congrArg some (by kernel_rfl))⟩
  f23 := ⟨Tryz.f406.name, by decide, Tryz.func406.trans (congrArg some (by kernel_rfl))⟩
  f24 := ⟨Tryz.f407.name, by decide, Tryz.func407.trans (congrArg some (by kernel_rfl))⟩
  f25 := ⟨Tryz.f408.name, by decide, Tryz.func408.trans (congrArg some (by kernel_rfl))⟩
  f26 := ⟨Tryz.f409.name, by decide, Tryz.func409.trans (congrArg some (by kernel_rfl))⟩
  f27 := ⟨Tryz.f410.name, by decide, Tryz.func410.trans (congrArg some (by kernel_rfl))⟩
  f28 := ⟨Tryz.f411.name, by decide, Tryz.func411.trans (congrArg some (by kernel_rfl))⟩
  f29 := ⟨Tryz.f412.name, by decide, Tryz.func412.trans (congrArg some (by kernel_rfl))⟩
  f31 := Tryz.func359.trans (congrArg some (by kernel_rfl))
  f32 := Tryz.func360.trans (congrArg some (by kernel_rfl))
  f36 := ⟨Tryz.f423.name, by decide, Tryz.func423.trans (congrArg some (by kernel_rfl))⟩
  f37 := ⟨Tryz.f424.name, by decide, Tryz.func424.trans (congrArg some (by kernel_rfl))⟩
  f38 := ⟨Tryz.f425.name, by decide, Tryz.func425.trans (congrArg some (by kernel_rfl))⟩
  f39 := ⟨Tryz.f202.name, by decide, Tryz.func202.trans (congrArg some (by kernel_rfl))⟩
  f41 := ⟨Tryz.f433.name, by decide, Tryz.func433.trans (congrArg some (by kernel_rfl))⟩
  t0 := Tryz.underlying0
  a0 := Tryz.isAgg0
  z0 := Tryz.sizeOf0
  v0 := Tryz.zeroValue0
  t3 := Tryz.underlying3
  a3 := Tryz.isAgg3
  z3 := Tryz.sizeOf3
  v3 := Tryz.zeroValue3
  t4 := Tryz.underlying4
  a4 := Tryz.isAgg4
  z4 := Tryz.sizeOf4
  v4 := Tryz.zeroValue4
  t5 := Tryz.underlying5
  a5 := Tryz.isAgg5
  z5 := Tryz.sizeOf5
  v5 := Tryz.zeroValue5
  t9 := Tryz.underlying9
  a9 := Tryz.isAgg9
  z9 := Tryz.sizeOf9
  v9 := Tryz.zeroValue9
  t26 := Tryz.underlying199
  a26 := Tryz.isAgg199
  z26 := Tryz.sizeOf199
  v26 := Tryz.zeroValue199
  t27 := Tryz.underlying199
  a27 := Tryz.isAgg199
  z27 := Tryz.sizeOf199
  v27 := Tryz.zeroValue199
  t29 := Tryz.underlying9
  a29 := Tryz.isAgg9
  z29 := Tryz.sizeOf9
  v29 := Tryz.zeroValue9
  t32 := Tryz.underlying267
  a32 := Tryz.isAgg267
  z32 := Tryz.sizeOf267
  v32 := Tryz.zeroValue267
  t35 := Tryz.underlying331
  a35 := Tryz.isAgg331
  z35 := Tryz.sizeOf331
  v35 := Tryz.zeroValue331
  t36 := Tryz.underlying332
  a36 := Tryz.isAgg332
  z36 := Tryz.sizeOf332
  v36 := Tryz.zeroValue332
  t41 := Tryz.underlying268
  a41 := Tryz.isAgg268
  z41 := Tryz.sizeOf268
  v41 := Tryz.zeroValue268
  t44 := Tryz.underlying191
  a44 := Tryz.isAgg191
  z44 := Tryz.sizeOf191
  v44 := Tryz.zeroValue191
  t46 := Tryz.underlying256
  a46 := Tryz.isAgg256
  z46 := Tryz.sizeOf256
  v46 := Tryz.zeroValue256
  t53 := Tryz.underlying381
  a53 := Tryz.isAgg381
  z53 := Tryz.sizeOf381
  v53 := Tryz.zeroValue381
  t57 := Tryz.underlying385
  a57 := Tryz.isAgg385
  z57 := Tryz.sizeOf385
  v57 := Tryz.zeroValue385
  t63 := Tryz.underlying420
  a63 := Tryz.isAgg420
  z63 := Tryz.sizeOf420
  v63 := Tryz.zeroValue420
  t64 := Tryz.underlying421
  a64 := Tryz.isAgg421
  z64 := Tryz.sizeOf421
  v64 := Tryz.zeroValue421 }
theorem Tryz.sorts230 (m : Nat) : AnyZ.SortsIn Tryz.prog Tryz.sorted230_ren Fence.wide m :=
  ⟨fun blk off cap ss W hH hblk hsz => callsIn_wide.2 (AnyM.slices_Sort_string Tryz.sort314 blk off cap ss W hH hblk hsz),
   fun p cap W => callsIn_wide.2 (AnyM.slices_Sort_string_none Tryz.sort314 p cap W)⟩
theorem Tryz.maps_Keys_231 (mb : Option Nat) (W : World) : CallsIn Fence.wide 5 Tryz.prog 231 #[.map mb] W fun e w' => e = .returned (.func (.func 315) #[] #[.pointer (some ⟨W.heap.size, 0, none⟩)]) ∧ w' = W.alloc (.cells #[.map mb] 291) :=
  AnyZ.keys_in Tryz.keys231 Fence.wide 5 trivial rfl mb W
set_option maxHeartbeats 1000000 in
theorem Tryz.slices_Sorted_keys_230_231 {H : Type} (b nn : Nat) (D0 : DataW H) (R : Value → Option (DataW H × List MemPlace)) (w : World) (hown : w.ownsMap Tryz.prog 9 R b nn D0) (hmax : Maps.size D0 ≤ maxLen) (hbytes : Maps.size D0 * 16 ≤ 140737488355328) :
    CallsIn Fence.wide 5 Tryz.prog 230 #[.func (.func 315) #[] #[.pointer (some ⟨w.heap.size, 0, none⟩)]] (w.alloc (.cells #[.map (some b)] 291)) fun e w' => ∃ (v : Value) (ss : List (List UInt8)), e = .returned v ∧ ss.Perm (strKeys D0) ∧
      w'.ownsRow (w.alloc (.cells #[.map (some b)] 291)).heap.size 9 1 v ss.length ((ss.mergeSort (fun x y => decide (x ≤ y))).map encStr) ∧ (v = .slice none 0 0 ↔ ss = []) ∧ Below (w.alloc (.cells #[.map (some b)] 291)).heap.size (w.alloc (.cells #[.map (some b)] 291)) w' := by
  have hbl := hown.lt
  have hseq : SeqGives Fence.wide 2 Tryz.prog 315 #[.pointer (some ⟨w.heap.size, 0, none⟩)] encStr (fun ss => ss.Perm (strKeys D0)) (Maps.size D0) (w.alloc (.cells #[.map (some b)] 291)) :=
    AnyZ.keys_gives (ρ := Tryz.keys231_ren) { Tryz.keys231 with } Fence.wide _ trivial rfl (by omega) w.heap.size b nn D0 _ (by simp) (by simp) (by
      obtain ⟨es, clock, hb, Ft, hs, hD⟩ := hown
      exact ⟨es, clock, (Below.heap_alloc _ _ b hbl).trans hb, Ft, hs, hD⟩)
  exact AnyZ.sorted_in Tryz.sorted230 Fence.wide 5 trivial trivial trivial trivial rfl (by omega) (Tryz.sorts230 _) (enters_of Tryz.func314 (by kernel_rfl) rfl) 315 #[.pointer (some ⟨w.heap.size, 0, none⟩)] trivial (enters_of Tryz.func315 (by kernel_rfl) rfl) _ _ hmax hbytes _ hseq
set_option maxHeartbeats 1000000 in
theorem Tryz.slices_Sorted_keys_nil_230_231 (w : World) :
    CallsIn Fence.wide 5 Tryz.prog 230 #[.func (.func 315) #[] #[.pointer (some ⟨w.heap.size, 0, none⟩)]] (w.alloc (.cells #[.map none] 291)) fun e w' => ∃ (v : Value) (ss : List (List UInt8)), e = .returned v ∧ ss = [] ∧
      w'.ownsRow (w.alloc (.cells #[.map none] 291)).heap.size 9 1 v ss.length ((ss.mergeSort (fun x y => decide (x ≤ y))).map encStr) ∧ (v = .slice none 0 0 ↔ ss = []) ∧ Below (w.alloc (.cells #[.map none] 291)).heap.size (w.alloc (.cells #[.map none] 291)) w' := by
  have hseq : SeqGives Fence.wide 2 Tryz.prog 315 #[.pointer (some ⟨w.heap.size, 0, none⟩)] encStr (fun ss : List (List UInt8) => ss = []) 0 (w.alloc (.cells #[.map none] 291)) :=
    AnyZ.keys_gives_nil (ρ := Tryz.keys231_ren) { Tryz.keys231 with } Fence.wide _ trivial rfl w.heap.size _ (by simp) (by simp)
  exact AnyZ.sorted_in Tryz.sorted230 Fence.wide 5 trivial trivial trivial trivial rfl (by omega) (Tryz.sorts230 _) (enters_of Tryz.func314 (by kernel_rfl) rfl) 315 #[.pointer (some ⟨w.heap.size, 0, none⟩)] trivial (enters_of Tryz.func315 (by kernel_rfl) rfl) _ 0 (Nat.zero_le _) (by omega) _ hseq
end Go.Proofs
end
