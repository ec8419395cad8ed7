/- Parts of the proof. -/
import Derived.Test.YtjilaaoaebglbaaGreatDoorA21
import Derived.Test.YtjilaaoaebglbaaGreatDoorA01
import Derived.Test.YtjilaaoaebglbaaGreatDoorA22
import Derived.Test.YtjilaaoaebglbaaGreatDoorA23
import Derived.Test.YtjilaaoaebglbaaGreatDoorA18
set_option linter.unusedVariables false
set_option linter.unusedSimpArgs false
set_option linter.unnecessarySimpa false
set_option linter.unusedSectionVars false
section
namespace Go.Am
open Go Go.Proofs
def seatHm : List Nat := [40, 42, 50, 53, 61, 69, 92, 93, 94, 95, 96, 97, 101, 106, 107, 113, 114, 115, 116, 117, 123, 141, 152, 159, 174, 175, 176, 177, 199, 200, 206, 208, 209, 228, 235, 236, 243, 246, 252, 264, 265, 266, 267, 286, 287, 288, 289, 290, 291, 292, 293, 294, 295, 299, 304, 306, 308, 311, 312, 318, 330, 340, 347, 348, 349, 350, 351, 352, 355, 356, 358, 361, 362, 363, 365, 366, 370, 371, 373, 375, 379, 380, 381, 389, 390, 391, 393, 394, 398, 399, 404, 405, 406, 407, 408, 409, 411, 412, 418, 419, 420, 421, 423, 424, 425, 427, 428, 435, 436, 437, 438]
def hmS (f : Nat) : Bool := seatHm.any (Nat.beq f)
def ctzTab : List AV := [0, 1, 28, 2, 29, 14, 24, 3, 30, 22, 20, 15, 25, 17, 4, 8, 31, 27, 13, 23, 21, 19, 16, 7, 26, 12, 18, 6, 11, 5, 10, 9].map fun (n : Nat) => AV.int .u8 n
def globS (g : Nat) : Option (List AV) := if g = 3 then some ctzTab else if g < 8 then some [] else none
def litVar : List AV → Bool
  | [.int .i64 6, .int .i64 0, .bool false, .row 0 [], .row 0 [], .str [], .row 2 [.int .i64 2, .int .i64 0, .bool false, .row 0 [], .row 0 [], .str [120], .row 0 [], .int .i64 1, .int .i64 0, .bool false, .row 1 [.int .u32 1], .row 0 [], .str [], .row 0 []]] => true
  | _ => false
open Classical in
noncomputable def varsC (e : List AV) : Option AV := if h : ∃ x : Xp, x.ok ∧ x.valid = true ∧ x.cells = e then some (.tuple [Ss (h.choose.nms []), .int .i64 0]) else none
noncomputable def primVars : List AV → Option AV
  | [.agg e] => bif litVar e then some (.tuple [.row 1 [.str [120]], .int .i64 0]) else varsC e
  | _ => none
noncomputable def primS (f : Nat) : Option (List AV → Option AV) := if f = 329 then some primIndexByte else if f = 136 then some primVars else if f = 233 then some primClone else none
def hprimS (f : Nat) : Option (List AV → Heap → Nat → List Nat → Option Back) := if f = 54 then some hpString else if f = 129 then some hpCopy else none
def glS (g : Nat) : Bool := (globS g).isSome
noncomputable def E0 : Env := { code := fun f => match Tryz.prog.funcs[f]? with | some fn => compFn Tryz.prog glS hmS f fn | none => none, glob := globS, prim := primS, hprim := hprimS }
end Go.Am
end
