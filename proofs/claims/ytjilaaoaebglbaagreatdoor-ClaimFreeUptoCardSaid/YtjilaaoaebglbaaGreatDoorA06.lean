/- Parts of the proof. -/
import Derived.Test.YtjilaaoaebglbaaGreatDoorA05
set_option linter.unusedVariables false
set_option linter.unusedSimpArgs false
set_option linter.unnecessarySimpa false
set_option linter.unusedSectionVars false
section
set_option maxRecDepth 4000
namespace Go.Am
open Go
abbrev id_ref01_Large : FuncId := 120
abbrev id_ref01_Of : FuncId := 125
abbrev id_ref01_Cmp : FuncId := 126
abbrev id_ref01_Sgn : FuncId := 207
abbrev id_ref01_Make : FuncId := 212
abbrev id_ref01_NatOf : FuncId := 214
abbrev id_ref01_words : FuncId := 216
abbrev id_ref01_Over : FuncId := 217
abbrev id_ref01_Diff : FuncId := 218
abbrev id_ref01_Opp : FuncId := 255
abbrev id_ref01_NatGcd : FuncId := 300
abbrev id_ref01_NatDiv : FuncId := 301
abbrev id_ref01_NatAdd : FuncId := 302
abbrev id_ref01_NatMul : FuncId := 303
abbrev id_ref01_trim : FuncId := 304
abbrev id_ref01_Sum : FuncId := 305
abbrev id_ref01_small : FuncId := 310
abbrev id_ref01_Zero : FuncId := 323
abbrev id_ref01_NatCmp : FuncId := 364
abbrev id_ref01_NatShl : FuncId := 365
abbrev id_ref01_digit : FuncId := 366
abbrev id_ref01_NatShr : FuncId := 367
abbrev id_ref01_Q_den : FuncId := 368
abbrev id_ref01_NatSub : FuncId := 369
abbrev id_ref01_less : FuncId := 400
def fn_ref01_trim : AFn := ⟨21, [.tmp 2], true,
  .seq (.region [⟨some 2, none, .mov (.const (.nils))⟩] none) <|
  .seq (.region [⟨some 4, none, .mov (.tmp 0)⟩,
    ⟨some 5, none, .len 1 (.tmp 4)⟩,
    ⟨some 3, none, .mov (.tmp 5)⟩] none) <|
  .seq (.block 0 <|
  .loop <|
  .seq (.seq (.region [⟨some 6, none, .mov (.tmp 3)⟩,
    ⟨some 7, none, .bin .gtr (.tmp 6) (.const (.int .i64 0))⟩,
    ⟨some 8, none, .mov (.tmp 7)⟩,
    ⟨some 9, some (8, true), .mov (.tmp 0)⟩,
    ⟨some 10, some (8, true), .mov (.tmp 3)⟩,
    ⟨some 11, some (8, true), .bin .sub (.tmp 10) (.const (.int .i64 1))⟩,
    ⟨some 12, some (8, true), .iaddr 1 (.tmp 9) (.tmp 11)⟩,
    ⟨some 13, some (8, true), .load false 1 (.tmp 12)⟩,
    ⟨some 14, some (8, true), .bin .eql (.tmp 13) (.const (.int .u32 0))⟩,
    ⟨some 15, none, .pick (.tmp 8) (.tmp 14) (.const (.bool false))⟩] none) <|
  .cond (.tmp 15)
   (.skip)
   (.exit 0)) <|
  .block 1 <|
  .region [⟨some 16, none, .mov (.tmp 3)⟩,
    ⟨some 17, none, .bin .sub (.tmp 16) (.const (.int .i64 1))⟩,
    ⟨some 3, none, .mov (.tmp 17)⟩] none) <|
  .seq (.region [⟨some 18, none, .mov (.tmp 0)⟩,
    ⟨some 19, none, .mov (.tmp 3)⟩,
    ⟨some 20, none, .slice false 1 (.tmp 18) none (some (.tmp 19))⟩,
    ⟨some 2, none, .mov (.tmp 20)⟩] none) <|
  .ret⟩
def fn_ref01_NatOf : AFn := ⟨15, [.tmp 2], false,
  .seq (.region [⟨some 2, none, .mov (.const (.nils))⟩] none) <|
  .seq (.region [⟨some 3, none, .mov (.const (.nils))⟩] none) <|
  .seq (.block 0 <|
  .loop <|
  .seq (.seq (.region [⟨some 4, none, .mov (.tmp 0)⟩,
    ⟨some 5, none, .bin .gtr (.tmp 4) (.const (.int .u64 0))⟩] none) <|
  .cond (.tmp 5)
   (.skip)
   (.exit 0)) <|
  .block 1 <|
  .seq (.region [⟨some 6, none, .mov (.tmp 3)⟩,
    ⟨some 7, none, .mov (.tmp 0)⟩,
    ⟨some 8, none, .bin .rem (.tmp 7) (.const (.int .u64 65536))⟩,
    ⟨some 9, none, .conv (.toInt .u32) (.tmp 8)⟩,
    ⟨some 10, none, .bslice 191 1 1 [.int .u32 0] [(0, 1, (.tmp 9))]⟩,
    ⟨some 11, none, .append 191 1 4 (.tmp 6) (.tmp 10)⟩,
    ⟨some 3, none, .mov (.tmp 11)⟩] none) <|
  .region [⟨some 12, none, .mov (.tmp 0)⟩,
    ⟨some 13, none, .bin .quo (.tmp 12) (.const (.int .u64 65536))⟩,
    ⟨some 0, none, .mov (.tmp 13)⟩] none) <|
  .seq (.region [⟨some 14, none, .mov (.tmp 3)⟩,
    ⟨some 2, none, .mov (.tmp 14)⟩] none) <|
  .ret⟩
def fn_ref01_NatCmp : AFn := ⟨41, [.tmp 4], false,
  .seq (.region [⟨some 4, none, .mov (.const (.int .i64 0))⟩] none) <|
  .seq (.seq (.region [⟨some 6, none, .mov (.tmp 0)⟩,
    ⟨some 7, none, .len 1 (.tmp 6)⟩,
    ⟨some 8, none, .mov (.tmp 1)⟩,
    ⟨some 9, none, .len 1 (.tmp 8)⟩,
    ⟨some 10, none, .bin .neq (.tmp 7) (.tmp 9)⟩] none) <|
  .cond (.tmp 10)
   (.seq (.seq (.region [⟨some 11, none, .mov (.tmp 0)⟩,
     ⟨some 12, none, .len 1 (.tmp 11)⟩,
     ⟨some 13, none, .mov (.tmp 1)⟩,
     ⟨some 14, none, .len 1 (.tmp 13)⟩,
     ⟨some 15, none, .bin .lss (.tmp 12) (.tmp 14)⟩] none) <|
   .cond (.tmp 15)
    (.seq (.region [⟨some 4, none, .mov (.const (.int .i64 (-1)))⟩] none) <|
    .ret)
    (.skip)) <|
   .seq (.region [⟨some 4, none, .mov (.const (.int .i64 1))⟩] none) <|
   .ret)
   (.skip)) <|
  .seq (.seq (.region [⟨some 16, none, .mov (.tmp 0)⟩,
    ⟨some 17, none, .len 1 (.tmp 16)⟩,
    ⟨some 18, none, .bin .sub (.tmp 17) (.const (.int .i64 1))⟩,
    ⟨some 5, none, .mov (.tmp 18)⟩] none) <|
  .block 0 <|
  .loop <|
  .seq (.seq (.region [⟨some 19, none, .mov (.tmp 5)⟩,
    ⟨some 20, none, .bin .geq (.tmp 19) (.const (.int .i64 0))⟩] none) <|
  .cond (.tmp 20)
   (.skip)
   (.exit 0)) <|
  .seq (.block 1 <|
  .seq (.seq (.region [⟨some 23, none, .mov (.tmp 0)⟩,
    ⟨some 24, none, .mov (.tmp 5)⟩,
    ⟨some 25, none, .iaddr 1 (.tmp 23) (.tmp 24)⟩,
    ⟨some 26, none, .load false 1 (.tmp 25)⟩,
    ⟨some 27, none, .mov (.tmp 1)⟩,
    ⟨some 28, none, .mov (.tmp 5)⟩,
    ⟨some 29, none, .iaddr 1 (.tmp 27) (.tmp 28)⟩,
    ⟨some 30, none, .load false 1 (.tmp 29)⟩,
    ⟨some 31, none, .bin .lss (.tmp 26) (.tmp 30)⟩] (some ⟨[(3, 7)], [[], [], [], [], [], [], [], [], []]⟩)) <|
  .cond (.tmp 31)
   (.seq (.region [⟨some 4, none, .mov (.const (.int .i64 (-1)))⟩] none) <|
   .ret)
   (.skip)) <|
  .seq (.region [⟨some 32, none, .mov (.tmp 0)⟩,
    ⟨some 33, none, .mov (.tmp 5)⟩,
    ⟨some 34, none, .iaddr 1 (.tmp 32) (.tmp 33)⟩,
    ⟨some 35, none, .load false 1 (.tmp 34)⟩,
    ⟨some 36, none, .mov (.tmp 1)⟩,
    ⟨some 37, none, .mov (.tmp 5)⟩,
    ⟨some 38, none, .iaddr 1 (.tmp 36) (.tmp 37)⟩,
    ⟨some 39, none, .load false 1 (.tmp 38)⟩,
    ⟨some 40, none, .bin .gtr (.tmp 35) (.tmp 39)⟩] (some ⟨[(3, 7)], [[], [], [], [], [], [], [], [], []]⟩)) <|
  .cond (.tmp 40)
   (.seq (.region [⟨some 4, none, .mov (.const (.int .i64 1))⟩] none) <|
   .ret)
   (.skip)) <|
  .region [⟨some 21, none, .mov (.tmp 5)⟩,
    ⟨some 22, none, .bin .sub (.tmp 21) (.const (.int .i64 1))⟩,
    ⟨some 5, none, .mov (.tmp 22)⟩] none) <|
  .seq (.region [⟨some 4, none, .mov (.const (.int .i64 0))⟩] none) <|
  .ret⟩
def fn_ref01_NatAdd : AFn := ⟨56, [.tmp 4], false,
  .seq (.region [⟨some 4, none, .mov (.const (.nils))⟩] none) <|
  .seq (.seq (.region [⟨some 9, none, .mov (.tmp 0)⟩,
    ⟨some 10, none, .len 1 (.tmp 9)⟩,
    ⟨some 11, none, .mov (.tmp 1)⟩,
    ⟨some 12, none, .len 1 (.tmp 11)⟩,
    ⟨some 13, none, .bin .lss (.tmp 10) (.tmp 12)⟩] none) <|
  .cond (.tmp 13)
   (.region [⟨some 14, none, .mov (.tmp 1)⟩,
     ⟨some 15, none, .mov (.tmp 0)⟩,
     ⟨some 0, none, .mov (.tmp 14)⟩,
     ⟨some 1, none, .mov (.tmp 15)⟩] none)
   (.skip)) <|
  .seq (.region [⟨some 16, none, .mov (.tmp 0)⟩,
    ⟨some 17, none, .len 1 (.tmp 16)⟩,
    ⟨some 18, none, .bin .add (.tmp 17) (.const (.int .i64 1))⟩,
    ⟨some 19, none, .mkslice 191 1 4 [.int .u32 0] (.const (.int .i64 0)) (.tmp 18)⟩,
    ⟨some 5, none, .mov (.tmp 19)⟩] none) <|
  .seq (.region [⟨some 6, none, .mov (.const (.int .u32 0))⟩] none) <|
  .seq (.seq (.region [⟨some 20, none, .mov (.tmp 0)⟩,
    ⟨some 21, none, .len 1 (.tmp 20)⟩,
    ⟨some 22, none, .mov (.const (.int .i64 0))⟩] none) <|
  .block 0 <|
  .loop <|
  .seq (.region [⟨some 23, none, .bin .lss (.tmp 22) (.tmp 21)⟩] none) <|
  .seq (.cond (.tmp 23)
   (.skip)
   (.exit 0)) <|
  .seq (.block 1 <|
  .seq (.region [⟨some 24, none, .mov (.tmp 22)⟩,
    ⟨some 7, none, .mov (.tmp 24)⟩] none) <|
  .seq (.region [⟨some 25, none, .mov (.tmp 0)⟩,
    ⟨some 26, none, .mov (.tmp 7)⟩,
    ⟨some 27, none, .iaddr 1 (.tmp 25) (.tmp 26)⟩,
    ⟨some 28, none, .load false 1 (.tmp 27)⟩,
    ⟨some 29, none, .mov (.tmp 6)⟩,
    ⟨some 30, none, .bin .add (.tmp 28) (.tmp 29)⟩,
    ⟨some 8, none, .mov (.tmp 30)⟩] none) <|
  .seq (.seq (.region [⟨some 31, none, .mov (.tmp 7)⟩,
    ⟨some 32, none, .mov (.tmp 1)⟩,
    ⟨some 33, none, .len 1 (.tmp 32)⟩,
    ⟨some 34, none, .bin .lss (.tmp 31) (.tmp 33)⟩] none) <|
  .cond (.tmp 34)
   (.region [⟨some 35, none, .mov (.tmp 8)⟩,
     ⟨some 36, none, .mov (.tmp 1)⟩,
     ⟨some 37, none, .mov (.tmp 7)⟩,
     ⟨some 38, none, .iaddr 1 (.tmp 36) (.tmp 37)⟩,
     ⟨some 39, none, .load false 1 (.tmp 38)⟩,
     ⟨some 40, none, .bin .add (.tmp 35) (.tmp 39)⟩,
     ⟨some 8, none, .mov (.tmp 40)⟩] none)
   (.skip)) <|
  .seq (.region [⟨some 41, none, .mov (.tmp 5)⟩,
    ⟨some 42, none, .mov (.tmp 8)⟩,
    ⟨some 43, none, .bin .rem (.tmp 42) (.const (.int .u32 65536))⟩,
    ⟨some 44, none, .bslice 191 1 1 [.int .u32 0] [(0, 1, (.tmp 43))]⟩,
    ⟨some 45, none, .append 191 1 4 (.tmp 41) (.tmp 44)⟩,
    ⟨some 5, none, .mov (.tmp 45)⟩] none) <|
  .region [⟨some 46, none, .mov (.tmp 8)⟩,
    ⟨some 47, none, .bin .quo (.tmp 46) (.const (.int .u32 65536))⟩,
    ⟨some 6, none, .mov (.tmp 47)⟩] none) <|
  .region [⟨some 48, none, .bin .add (.tmp 22) (.const (.int .i64 1))⟩,
    ⟨some 22, none, .mov (.tmp 48)⟩] none) <|
  .seq (.seq (.region [⟨some 49, none, .mov (.tmp 6)⟩,
    ⟨some 50, none, .bin .gtr (.tmp 49) (.const (.int .u32 0))⟩] none) <|
  .cond (.tmp 50)
   (.region [⟨some 51, none, .mov (.tmp 5)⟩,
     ⟨some 52, none, .mov (.tmp 6)⟩,
     ⟨some 53, none, .bslice 191 1 1 [.int .u32 0] [(0, 1, (.tmp 52))]⟩,
     ⟨some 54, none, .append 191 1 4 (.tmp 51) (.tmp 53)⟩,
     ⟨some 5, none, .mov (.tmp 54)⟩] none)
   (.skip)) <|
  .seq (.region [⟨some 55, none, .mov (.tmp 5)⟩,
    ⟨some 4, none, .mov (.tmp 55)⟩] none) <|
  .ret⟩
def fn_ref01_NatSub : AFn := ⟨47, [.tmp 4], false,
  .seq (.region [⟨some 4, none, .mov (.const (.nils))⟩] none) <|
  .seq (.region [⟨some 10, none, .mov (.tmp 0)⟩,
    ⟨some 11, none, .len 1 (.tmp 10)⟩,
    ⟨some 12, none, .mkslice 191 1 4 [.int .u32 0] (.const (.int .i64 0)) (.tmp 11)⟩,
    ⟨some 5, none, .mov (.tmp 12)⟩] none) <|
  .seq (.region [⟨some 6, none, .mov (.const (.int .u32 0))⟩] none) <|
  .seq (.seq (.region [⟨some 13, none, .mov (.tmp 0)⟩,
    ⟨some 14, none, .len 1 (.tmp 13)⟩,
    ⟨some 15, none, .mov (.const (.int .i64 0))⟩] none) <|
  .block 0 <|
  .loop <|
  .seq (.region [⟨some 16, none, .bin .lss (.tmp 15) (.tmp 14)⟩] none) <|
  .seq (.cond (.tmp 16)
   (.skip)
   (.exit 0)) <|
  .seq (.block 1 <|
  .seq (.region [⟨some 17, none, .mov (.tmp 15)⟩,
    ⟨some 7, none, .mov (.tmp 17)⟩] none) <|
  .seq (.region [⟨some 18, none, .mov (.tmp 6)⟩,
    ⟨some 8, none, .mov (.tmp 18)⟩] none) <|
  .seq (.seq (.region [⟨some 19, none, .mov (.tmp 7)⟩,
    ⟨some 20, none, .mov (.tmp 1)⟩,
    ⟨some 21, none, .len 1 (.tmp 20)⟩,
    ⟨some 22, none, .bin .lss (.tmp 19) (.tmp 21)⟩] none) <|
  .cond (.tmp 22)
   (.region [⟨some 23, none, .mov (.tmp 8)⟩,
     ⟨some 24, none, .mov (.tmp 1)⟩,
     ⟨some 25, none, .mov (.tmp 7)⟩,
     ⟨some 26, none, .iaddr 1 (.tmp 24) (.tmp 25)⟩,
     ⟨some 27, none, .load false 1 (.tmp 26)⟩,
     ⟨some 28, none, .bin .add (.tmp 23) (.tmp 27)⟩,
     ⟨some 8, none, .mov (.tmp 28)⟩] none)
   (.skip)) <|
  .seq (.region [⟨some 6, none, .mov (.const (.int .u32 0))⟩] none) <|
  .seq (.region [⟨some 29, none, .mov (.tmp 0)⟩,
    ⟨some 30, none, .mov (.tmp 7)⟩,
    ⟨some 31, none, .iaddr 1 (.tmp 29) (.tmp 30)⟩,
    ⟨some 32, none, .load false 1 (.tmp 31)⟩,
    ⟨some 9, none, .mov (.tmp 32)⟩] none) <|
  .seq (.seq (.region [⟨some 33, none, .mov (.tmp 9)⟩,
    ⟨some 34, none, .mov (.tmp 8)⟩,
    ⟨some 35, none, .bin .lss (.tmp 33) (.tmp 34)⟩] none) <|
  .cond (.tmp 35)
   (.seq (.region [⟨some 36, none, .mov (.tmp 9)⟩,
     ⟨some 37, none, .bin .add (.tmp 36) (.const (.int .u32 65536))⟩,
     ⟨some 9, none, .mov (.tmp 37)⟩] none) <|
   .region [⟨some 6, none, .mov (.const (.int .u32 1))⟩] none)
   (.skip)) <|
  .region [⟨some 38, none, .mov (.tmp 5)⟩,
    ⟨some 39, none, .mov (.tmp 9)⟩,
    ⟨some 40, none, .mov (.tmp 8)⟩,
    ⟨some 41, none, .bin .sub (.tmp 39) (.tmp 40)⟩,
    ⟨some 42, none, .bslice 191 1 1 [.int .u32 0] [(0, 1, (.tmp 41))]⟩,
    ⟨some 43, none, .append 191 1 4 (.tmp 38) (.tmp 42)⟩,
    ⟨some 5, none, .mov (.tmp 43)⟩] none) <|
  .region [⟨some 44, none, .bin .add (.tmp 15) (.const (.int .i64 1))⟩,
    ⟨some 15, none, .mov (.tmp 44)⟩] none) <|
  .seq (.region [⟨some 45, none, .mov (.tmp 5)⟩,
    ⟨some 46, none, .callf id_ref01_trim [.tmp 45]⟩,
    ⟨some 4, none, .mov (.tmp 46)⟩] none) <|
  .ret⟩
def fn_ref01_NatMul : AFn := ⟨77, [.tmp 4], false,
  .seq (.region [⟨some 4, none, .mov (.const (.nils))⟩] none) <|
  .seq (.seq (.region [⟨some 12, none, .mov (.tmp 0)⟩,
    ⟨some 13, none, .len 1 (.tmp 12)⟩,
    ⟨some 14, none, .bin .eql (.tmp 13) (.const (.int .i64 0))⟩,
    ⟨some 15, none, .mov (.tmp 14)⟩,
    ⟨some 16, some (15, false), .mov (.tmp 1)⟩,
    ⟨some 17, some (15, false), .len 1 (.tmp 16)⟩,
    ⟨some 18, some (15, false), .bin .eql (.tmp 17) (.const (.int .i64 0))⟩,
    ⟨some 19, none, .pick (.tmp 15) (.const (.bool true)) (.tmp 18)⟩] none) <|
  .cond (.tmp 19)
   (.seq (.region [⟨some 4, none, .mov (.const (.nils))⟩] none) <|
   .ret)
   (.skip)) <|
  .seq (.region [⟨some 20, none, .mov (.tmp 0)⟩,
    ⟨some 21, none, .len 1 (.tmp 20)⟩,
    ⟨some 22, none, .mov (.tmp 1)⟩,
    ⟨some 23, none, .len 1 (.tmp 22)⟩,
    ⟨some 24, none, .bin .add (.tmp 21) (.tmp 23)⟩,
    ⟨some 25, none, .mkslice 191 1 4 [.int .u32 0] (.tmp 24) (.tmp 24)⟩,
    ⟨some 5, none, .mov (.tmp 25)⟩] none) <|
  .seq (.seq (.region [⟨some 26, none, .mov (.tmp 0)⟩,
    ⟨some 27, none, .len 1 (.tmp 26)⟩,
    ⟨some 28, none, .mov (.const (.int .i64 0))⟩] none) <|
  .block 0 <|
  .loop <|
  .seq (.region [⟨some 29, none, .bin .lss (.tmp 28) (.tmp 27)⟩] none) <|
  .seq (.cond (.tmp 29)
   (.skip)
   (.exit 0)) <|
  .seq (.block 1 <|
  .seq (.region [⟨some 30, none, .mov (.tmp 28)⟩,
    ⟨some 31, none, .iaddr 1 (.tmp 26) (.tmp 28)⟩,
    ⟨some 32, none, .load false 1 (.tmp 31)⟩,
    ⟨some 6, none, .mov (.tmp 30)⟩,
    ⟨some 7, none, .mov (.tmp 32)⟩] none) <|
  .seq (.region [⟨some 8, none, .mov (.const (.int .u64 0))⟩] none) <|
  .seq (.seq (.region [⟨some 33, none, .mov (.tmp 1)⟩,
    ⟨some 34, none, .len 1 (.tmp 33)⟩,
    ⟨some 35, none, .mov (.const (.int .i64 0))⟩] none) <|
  .block 2 <|
  .loop <|
  .seq (.region [⟨some 36, none, .bin .lss (.tmp 35) (.tmp 34)⟩] none) <|
  .seq (.cond (.tmp 36)
   (.skip)
   (.exit 2)) <|
  .seq (.block 3 <|
  .seq (.region [⟨some 37, none, .mov (.tmp 35)⟩,
    ⟨some 38, none, .iaddr 1 (.tmp 33) (.tmp 35)⟩,
    ⟨some 39, none, .load false 1 (.tmp 38)⟩,
    ⟨some 9, none, .mov (.tmp 37)⟩,
    ⟨some 10, none, .mov (.tmp 39)⟩] none) <|
  .seq (.region [⟨some 40, none, .mov (.tmp 5)⟩,
    ⟨some 41, none, .mov (.tmp 6)⟩,
    ⟨some 42, none, .mov (.tmp 9)⟩,
    ⟨some 43, none, .bin .add (.tmp 41) (.tmp 42)⟩,
    ⟨some 44, none, .iaddr 1 (.tmp 40) (.tmp 43)⟩,
    ⟨some 45, none, .load false 1 (.tmp 44)⟩,
    ⟨some 46, none, .conv (.toInt .u64) (.tmp 45)⟩,
    ⟨some 47, none, .mov (.tmp 7)⟩,
    ⟨some 48, none, .conv (.toInt .u64) (.tmp 47)⟩,
    ⟨some 49, none, .mov (.tmp 10)⟩,
    ⟨some 50, none, .conv (.toInt .u64) (.tmp 49)⟩,
    ⟨some 51, none, .bin .mul (.tmp 48) (.tmp 50)⟩,
    ⟨some 52, none, .bin .add (.tmp 46) (.tmp 51)⟩,
    ⟨some 53, none, .mov (.tmp 8)⟩,
    ⟨some 54, none, .bin .add (.tmp 52) (.tmp 53)⟩,
    ⟨some 11, none, .mov (.tmp 54)⟩] none) <|
  .seq (.region [⟨some 55, none, .mov (.tmp 5)⟩,
    ⟨some 56, none, .mov (.tmp 6)⟩,
    ⟨some 57, none, .mov (.tmp 9)⟩,
    ⟨some 58, none, .bin .add (.tmp 56) (.tmp 57)⟩,
    ⟨some 59, none, .mov (.tmp 11)⟩,
    ⟨some 60, none, .bin .rem (.tmp 59) (.const (.int .u64 65536))⟩,
    ⟨some 61, none, .conv (.toInt .u32) (.tmp 60)⟩,
    ⟨some 62, none, .iaddr 1 (.tmp 55) (.tmp 58)⟩,
    ⟨none, none, .store 1 (.tmp 62) (.tmp 61)⟩] none) <|
  .region [⟨some 63, none, .mov (.tmp 11)⟩,
    ⟨some 64, none, .bin .quo (.tmp 63) (.const (.int .u64 65536))⟩,
    ⟨some 8, none, .mov (.tmp 64)⟩] none) <|
  .region [⟨some 65, none, .bin .add (.tmp 35) (.const (.int .i64 1))⟩,
    ⟨some 35, none, .mov (.tmp 65)⟩] none) <|
  .region [⟨some 66, none, .mov (.tmp 5)⟩,
    ⟨some 67, none, .mov (.tmp 6)⟩,
    ⟨some 68, none, .mov (.tmp 1)⟩,
    ⟨some 69, none, .len 1 (.tmp 68)⟩,
    ⟨some 70, none, .bin .add (.tmp 67) (.tmp 69)⟩,
    ⟨some 71, none, .mov (.tmp 8)⟩,
    ⟨some 72, none, .conv (.toInt .u32) (.tmp 71)⟩,
    ⟨some 73, none, .iaddr 1 (.tmp 66) (.tmp 70)⟩,
    ⟨none, none, .store 1 (.tmp 73) (.tmp 72)⟩] none) <|
  .region [⟨some 74, none, .bin .add (.tmp 28) (.const (.int .i64 1))⟩,
    ⟨some 28, none, .mov (.tmp 74)⟩] none) <|
  .seq (.region [⟨some 75, none, .mov (.tmp 5)⟩,
    ⟨some 76, none, .callf id_ref01_trim [.tmp 75]⟩,
    ⟨some 4, none, .mov (.tmp 76)⟩] none) <|
  .ret⟩
def fn_ref01_NatShl : AFn := ⟨55, [.tmp 4], true,
  .seq (.region [⟨some 4, none, .mov (.const (.nils))⟩] none) <|
  .seq (.seq (.region [⟨some 10, none, .mov (.tmp 0)⟩,
    ⟨some 11, none, .len 1 (.tmp 10)⟩,
    ⟨some 12, none, .bin .eql (.tmp 11) (.const (.int .i64 0))⟩,
    ⟨some 13, none, .mov (.tmp 12)⟩,
    ⟨some 14, some (13, false), .mov (.tmp 1)⟩,
    ⟨some 15, some (13, false), .bin .leq (.tmp 14) (.const (.int .i64 0))⟩,
    ⟨some 16, none, .pick (.tmp 13) (.const (.bool true)) (.tmp 15)⟩] none) <|
  .cond (.tmp 16)
   (.seq (.region [⟨some 17, none, .bslice 191 1 0 [.int .u32 0] []⟩,
     ⟨some 18, none, .mov (.tmp 0)⟩,
     ⟨some 19, none, .append 191 1 4 (.tmp 17) (.tmp 18)⟩,
     ⟨some 4, none, .mov (.tmp 19)⟩] none) <|
   .ret)
   (.skip)) <|
  .seq (.region [⟨some 20, none, .mov (.tmp 1)⟩,
    ⟨some 21, none, .bin .quo (.tmp 20) (.const (.int .i64 16))⟩,
    ⟨some 22, none, .mov (.tmp 1)⟩,
    ⟨some 23, none, .bin .quo (.tmp 22) (.const (.int .i64 16))⟩,
    ⟨some 24, none, .mov (.tmp 0)⟩,
    ⟨some 25, none, .len 1 (.tmp 24)⟩,
    ⟨some 26, none, .bin .add (.tmp 23) (.tmp 25)⟩,
    ⟨some 27, none, .bin .add (.tmp 26) (.const (.int .i64 1))⟩,
    ⟨some 28, none, .mkslice 191 1 4 [.int .u32 0] (.tmp 21) (.tmp 27)⟩,
    ⟨some 5, none, .mov (.tmp 28)⟩] none) <|
  .seq (.region [⟨some 6, none, .mov (.const (.int .u32 0))⟩] none) <|
  .seq (.seq (.region [⟨some 29, none, .mov (.tmp 0)⟩,
    ⟨some 30, none, .len 1 (.tmp 29)⟩,
    ⟨some 31, none, .mov (.const (.int .i64 0))⟩] none) <|
  .block 0 <|
  .loop <|
  .seq (.region [⟨some 32, none, .bin .lss (.tmp 31) (.tmp 30)⟩] none) <|
  .seq (.cond (.tmp 32)
   (.skip)
   (.exit 0)) <|
  .seq (.block 1 <|
  .seq (.region [⟨some 33, none, .iaddr 1 (.tmp 29) (.tmp 31)⟩,
    ⟨some 34, none, .load false 1 (.tmp 33)⟩,
    ⟨some 8, none, .mov (.tmp 34)⟩] none) <|
  .seq (.region [⟨some 35, none, .mov (.tmp 8)⟩,
    ⟨some 36, none, .mov (.tmp 1)⟩,
    ⟨some 37, none, .bin .rem (.tmp 36) (.const (.int .i64 16))⟩,
    ⟨some 38, none, .conv (.toInt .u64) (.tmp 37)⟩,
    ⟨some 39, none, .bin .shl (.tmp 35) (.tmp 38)⟩,
    ⟨some 40, none, .mov (.tmp 6)⟩,
    ⟨some 41, none, .bin .or (.tmp 39) (.tmp 40)⟩,
    ⟨some 9, none, .mov (.tmp 41)⟩] none) <|
  .seq (.region [⟨some 42, none, .mov (.tmp 5)⟩,
    ⟨some 43, none, .mov (.tmp 9)⟩,
    ⟨some 44, none, .bin .rem (.tmp 43) (.const (.int .u32 65536))⟩,
    ⟨some 45, none, .bslice 191 1 1 [.int .u32 0] [(0, 1, (.tmp 44))]⟩,
    ⟨some 46, none, .append 191 1 4 (.tmp 42) (.tmp 45)⟩,
    ⟨some 5, none, .mov (.tmp 46)⟩] none) <|
  .region [⟨some 47, none, .mov (.tmp 9)⟩,
    ⟨some 48, none, .bin .quo (.tmp 47) (.const (.int .u32 65536))⟩,
    ⟨some 6, none, .mov (.tmp 48)⟩] none) <|
  .region [⟨some 49, none, .bin .add (.tmp 31) (.const (.int .i64 1))⟩,
    ⟨some 31, none, .mov (.tmp 49)⟩] none) <|
  .seq (.region [⟨some 50, none, .mov (.tmp 5)⟩,
    ⟨some 51, none, .mov (.tmp 6)⟩,
    ⟨some 52, none, .bslice 191 1 1 [.int .u32 0] [(0, 1, (.tmp 51))]⟩,
    ⟨some 53, none, .append 191 1 4 (.tmp 50) (.tmp 52)⟩,
    ⟨some 54, none, .callf id_ref01_trim [.tmp 53]⟩,
    ⟨some 4, none, .mov (.tmp 54)⟩] none) <|
  .ret⟩
def fn_ref01_NatShr : AFn := ⟨58, [.tmp 4], false,
  .seq (.region [⟨some 4, none, .mov (.const (.nils))⟩] none) <|
  .seq (.seq (.region [⟨some 8, none, .mov (.tmp 1)⟩,
    ⟨some 9, none, .bin .lss (.tmp 8) (.const (.int .i64 0))⟩,
    ⟨some 10, none, .mov (.tmp 9)⟩,
    ⟨some 11, some (10, false), .mov (.tmp 1)⟩,
    ⟨some 12, some (10, false), .bin .quo (.tmp 11) (.const (.int .i64 16))⟩,
    ⟨some 13, some (10, false), .mov (.tmp 0)⟩,
    ⟨some 14, some (10, false), .len 1 (.tmp 13)⟩,
    ⟨some 15, some (10, false), .bin .geq (.tmp 12) (.tmp 14)⟩,
    ⟨some 16, none, .pick (.tmp 10) (.const (.bool true)) (.tmp 15)⟩] none) <|
  .cond (.tmp 16)
   (.seq (.region [⟨some 4, none, .mov (.const (.nils))⟩] none) <|
   .ret)
   (.skip)) <|
  .seq (.region [⟨some 17, none, .mov (.tmp 0)⟩,
    ⟨some 18, none, .mov (.tmp 1)⟩,
    ⟨some 19, none, .bin .quo (.tmp 18) (.const (.int .i64 16))⟩,
    ⟨some 20, none, .slice false 1 (.tmp 17) (some (.tmp 19)) none⟩,
    ⟨some 0, none, .mov (.tmp 20)⟩] none) <|
  .seq (.region [⟨some 21, none, .mov (.tmp 0)⟩,
    ⟨some 22, none, .len 1 (.tmp 21)⟩,
    ⟨some 23, none, .mkslice 191 1 4 [.int .u32 0] (.const (.int .i64 0)) (.tmp 22)⟩,
    ⟨some 5, none, .mov (.tmp 23)⟩] none) <|
  .seq (.seq (.region [⟨some 24, none, .mov (.tmp 0)⟩,
    ⟨some 25, none, .len 1 (.tmp 24)⟩,
    ⟨some 26, none, .mov (.const (.int .i64 0))⟩] none) <|
  .block 0 <|
  .loop <|
  .seq (.region [⟨some 27, none, .bin .lss (.tmp 26) (.tmp 25)⟩] none) <|
  .seq (.cond (.tmp 27)
   (.skip)
   (.exit 0)) <|
  .seq (.block 1 <|
  .seq (.region [⟨some 28, none, .mov (.tmp 26)⟩,
    ⟨some 6, none, .mov (.tmp 28)⟩] none) <|
  .seq (.region [⟨some 29, none, .mov (.tmp 0)⟩,
    ⟨some 30, none, .mov (.tmp 6)⟩,
    ⟨some 31, none, .iaddr 1 (.tmp 29) (.tmp 30)⟩,
    ⟨some 32, none, .load false 1 (.tmp 31)⟩,
    ⟨some 7, none, .mov (.tmp 32)⟩] none) <|
  .seq (.seq (.region [⟨some 33, none, .mov (.tmp 6)⟩,
    ⟨some 34, none, .bin .add (.tmp 33) (.const (.int .i64 1))⟩,
    ⟨some 35, none, .mov (.tmp 0)⟩,
    ⟨some 36, none, .len 1 (.tmp 35)⟩,
    ⟨some 37, none, .bin .lss (.tmp 34) (.tmp 36)⟩] none) <|
  .cond (.tmp 37)
   (.region [⟨some 38, none, .mov (.tmp 7)⟩,
     ⟨some 39, none, .mov (.tmp 0)⟩,
     ⟨some 40, none, .mov (.tmp 6)⟩,
     ⟨some 41, none, .bin .add (.tmp 40) (.const (.int .i64 1))⟩,
     ⟨some 42, none, .iaddr 1 (.tmp 39) (.tmp 41)⟩,
     ⟨some 43, none, .load false 1 (.tmp 42)⟩,
     ⟨some 44, none, .bin .mul (.tmp 43) (.const (.int .u32 65536))⟩,
     ⟨some 45, none, .bin .add (.tmp 38) (.tmp 44)⟩,
     ⟨some 7, none, .mov (.tmp 45)⟩] none)
   (.skip)) <|
  .region [⟨some 46, none, .mov (.tmp 5)⟩,
    ⟨some 47, none, .mov (.tmp 7)⟩,
    ⟨some 48, none, .mov (.tmp 1)⟩,
    ⟨some 49, none, .bin .rem (.tmp 48) (.const (.int .i64 16))⟩,
    ⟨some 50, none, .conv (.toInt .u64) (.tmp 49)⟩,
    ⟨some 51, none, .bin .shr (.tmp 47) (.tmp 50)⟩,
    ⟨some 52, none, .bin .rem (.tmp 51) (.const (.int .u32 65536))⟩,
    ⟨some 53, none, .bslice 191 1 1 [.int .u32 0] [(0, 1, (.tmp 52))]⟩,
    ⟨some 54, none, .append 191 1 4 (.tmp 46) (.tmp 53)⟩,
    ⟨some 5, none, .mov (.tmp 54)⟩] none) <|
  .region [⟨some 55, none, .bin .add (.tmp 26) (.const (.int .i64 1))⟩,
    ⟨some 26, none, .mov (.tmp 55)⟩] none) <|
  .seq (.region [⟨some 56, none, .mov (.tmp 5)⟩,
    ⟨some 57, none, .callf id_ref01_trim [.tmp 56]⟩,
    ⟨some 4, none, .mov (.tmp 57)⟩] none) <|
  .ret⟩
def fn_ref01_small : AFn := ⟨39, [.tmp 4, .tmp 5], false,
  .seq (.region [⟨some 4, none, .mov (.const (.nils))⟩,
    ⟨some 5, none, .mov (.const (.int .u32 0))⟩] none) <|
  .seq (.region [⟨some 10, none, .mov (.tmp 0)⟩,
    ⟨some 11, none, .len 1 (.tmp 10)⟩,
    ⟨some 12, none, .mkslice 191 1 4 [.int .u32 0] (.tmp 11) (.tmp 11)⟩,
    ⟨some 6, none, .mov (.tmp 12)⟩] none) <|
  .seq (.region [⟨some 7, none, .mov (.const (.int .u32 0))⟩] none) <|
  .seq (.seq (.region [⟨some 13, none, .mov (.tmp 0)⟩,
    ⟨some 14, none, .len 1 (.tmp 13)⟩,
    ⟨some 15, none, .bin .sub (.tmp 14) (.const (.int .i64 1))⟩,
    ⟨some 8, none, .mov (.tmp 15)⟩] none) <|
  .block 0 <|
  .loop <|
  .seq (.seq (.region [⟨some 16, none, .mov (.tmp 8)⟩,
    ⟨some 17, none, .bin .geq (.tmp 16) (.const (.int .i64 0))⟩] none) <|
  .cond (.tmp 17)
   (.skip)
   (.exit 0)) <|
  .seq (.block 1 <|
  .seq (.region [⟨some 20, none, .mov (.tmp 7)⟩,
    ⟨some 21, none, .bin .mul (.tmp 20) (.const (.int .u32 65536))⟩,
    ⟨some 22, none, .mov (.tmp 0)⟩,
    ⟨some 23, none, .mov (.tmp 8)⟩,
    ⟨some 24, none, .iaddr 1 (.tmp 22) (.tmp 23)⟩,
    ⟨some 25, none, .load false 1 (.tmp 24)⟩,
    ⟨some 26, none, .bin .add (.tmp 21) (.tmp 25)⟩,
    ⟨some 9, none, .mov (.tmp 26)⟩] none) <|
  .seq (.region [⟨some 27, none, .mov (.tmp 6)⟩,
    ⟨some 28, none, .mov (.tmp 8)⟩,
    ⟨some 29, none, .mov (.tmp 9)⟩,
    ⟨some 30, none, .mov (.tmp 1)⟩,
    ⟨some 31, none, .bin .quo (.tmp 29) (.tmp 30)⟩,
    ⟨some 32, none, .iaddr 1 (.tmp 27) (.tmp 28)⟩,
    ⟨none, none, .store 1 (.tmp 32) (.tmp 31)⟩] none) <|
  .region [⟨some 33, none, .mov (.tmp 9)⟩,
    ⟨some 34, none, .mov (.tmp 1)⟩,
    ⟨some 35, none, .bin .rem (.tmp 33) (.tmp 34)⟩,
    ⟨some 7, none, .mov (.tmp 35)⟩] none) <|
  .region [⟨some 18, none, .mov (.tmp 8)⟩,
    ⟨some 19, none, .bin .sub (.tmp 18) (.const (.int .i64 1))⟩,
    ⟨some 8, none, .mov (.tmp 19)⟩] none) <|
  .seq (.region [⟨some 36, none, .mov (.tmp 6)⟩,
    ⟨some 37, none, .callf id_ref01_trim [.tmp 36]⟩,
    ⟨some 38, none, .mov (.tmp 7)⟩,
    ⟨some 4, none, .mov (.tmp 37)⟩,
    ⟨some 5, none, .mov (.tmp 38)⟩] none) <|
  .ret⟩
def fn_ref01_digit : AFn := ⟨78, [.tmp 4], true,
  .seq (.region [⟨some 4, none, .mov (.const (.int .u32 0))⟩] none) <|
  .seq (.region [⟨some 11, none, .mov (.tmp 1)⟩,
    ⟨some 12, none, .len 1 (.tmp 11)⟩,
    ⟨some 5, none, .mov (.tmp 12)⟩] none) <|
  .seq (.region [⟨some 13, none, .mov (.tmp 0)⟩,
    ⟨some 14, none, .mov (.tmp 5)⟩,
    ⟨some 15, none, .iaddr 1 (.tmp 13) (.tmp 14)⟩,
    ⟨some 16, none, .load false 1 (.tmp 15)⟩,
    ⟨some 17, none, .conv (.toInt .u64) (.tmp 16)⟩,
    ⟨some 18, none, .bin .mul (.tmp 17) (.const (.int .u64 65536))⟩,
    ⟨some 19, none, .mov (.tmp 0)⟩,
    ⟨some 20, none, .mov (.tmp 5)⟩,
    ⟨some 21, none, .bin .sub (.tmp 20) (.const (.int .i64 1))⟩,
    ⟨some 22, none, .iaddr 1 (.tmp 19) (.tmp 21)⟩,
    ⟨some 23, none, .load false 1 (.tmp 22)⟩,
    ⟨some 24, none, .conv (.toInt .u64) (.tmp 23)⟩,
    ⟨some 25, none, .bin .add (.tmp 18) (.tmp 24)⟩,
    ⟨some 6, none, .mov (.tmp 25)⟩] (some ⟨[(3, 10)], [[], [], [], [], [], [], [], [], [], [], [], [], [], []]⟩)) <|
  .seq (.region [⟨some 26, none, .mov (.tmp 6)⟩,
    ⟨some 27, none, .mov (.tmp 1)⟩,
    ⟨some 28, none, .mov (.tmp 5)⟩,
    ⟨some 29, none, .bin .sub (.tmp 28) (.const (.int .i64 1))⟩,
    ⟨some 30, none, .iaddr 1 (.tmp 27) (.tmp 29)⟩,
    ⟨some 31, none, .load false 1 (.tmp 30)⟩,
    ⟨some 32, none, .conv (.toInt .u64) (.tmp 31)⟩,
    ⟨some 33, none, .bin .quo (.tmp 26) (.tmp 32)⟩,
    ⟨some 7, none, .mov (.tmp 33)⟩] none) <|
  .seq (.seq (.region [⟨some 34, none, .mov (.tmp 7)⟩,
    ⟨some 35, none, .bin .geq (.tmp 34) (.const (.int .u64 65536))⟩] none) <|
  .cond (.tmp 35)
   (.region [⟨some 7, none, .mov (.const (.int .u64 65535))⟩] none)
   (.skip)) <|
  .seq (.block 0 <|
  .loop <|
  .seq (.seq (.region [⟨some 36, none, .mov (.tmp 0)⟩,
    ⟨some 37, none, .mov (.tmp 1)⟩,
    ⟨some 38, none, .mov (.tmp 7)⟩,
    ⟨some 39, none, .callf id_ref01_less [.tmp 36, .tmp 37, .tmp 38]⟩] none) <|
  .cond (.tmp 39)
   (.skip)
   (.exit 0)) <|
  .block 1 <|
  .region [⟨some 40, none, .mov (.tmp 7)⟩,
    ⟨some 41, none, .bin .sub (.tmp 40) (.const (.int .u64 1))⟩,
    ⟨some 7, none, .mov (.tmp 41)⟩] none) <|
  .seq (.region [⟨some 8, none, .mov (.const (.int .i64 0))⟩] none) <|
  .seq (.seq (.region [⟨some 42, none, .mov (.tmp 0)⟩,
    ⟨some 43, none, .len 1 (.tmp 42)⟩,
    ⟨some 44, none, .mov (.const (.int .i64 0))⟩] none) <|
  .block 2 <|
  .loop <|
  .seq (.region [⟨some 45, none, .bin .lss (.tmp 44) (.tmp 43)⟩] none) <|
  .seq (.cond (.tmp 45)
   (.skip)
   (.exit 2)) <|
  .seq (.block 3 <|
  .seq (.region [⟨some 46, none, .mov (.tmp 44)⟩,
    ⟨some 9, none, .mov (.tmp 46)⟩] none) <|
  .seq (.region [⟨some 47, none, .mov (.tmp 0)⟩,
    ⟨some 48, none, .mov (.tmp 9)⟩,
    ⟨some 49, none, .iaddr 1 (.tmp 47) (.tmp 48)⟩,
    ⟨some 50, none, .load false 1 (.tmp 49)⟩,
    ⟨some 51, none, .conv (.toInt .i64) (.tmp 50)⟩,
    ⟨some 52, none, .mov (.tmp 8)⟩,
    ⟨some 53, none, .bin .add (.tmp 51) (.tmp 52)⟩,
    ⟨some 10, none, .mov (.tmp 53)⟩] none) <|
  .seq (.seq (.region [⟨some 54, none, .mov (.tmp 9)⟩,
    ⟨some 55, none, .mov (.tmp 5)⟩,
    ⟨some 56, none, .bin .lss (.tmp 54) (.tmp 55)⟩] none) <|
  .cond (.tmp 56)
   (.region [⟨some 57, none, .mov (.tmp 10)⟩,
     ⟨some 58, none, .mov (.tmp 7)⟩,
     ⟨some 59, none, .conv (.toInt .i64) (.tmp 58)⟩,
     ⟨some 60, none, .mov (.tmp 1)⟩,
     ⟨some 61, none, .mov (.tmp 9)⟩,
     ⟨some 62, none, .iaddr 1 (.tmp 60) (.tmp 61)⟩,
     ⟨some 63, none, .load false 1 (.tmp 62)⟩,
     ⟨some 64, none, .conv (.toInt .i64) (.tmp 63)⟩,
     ⟨some 65, none, .bin .mul (.tmp 59) (.tmp 64)⟩,
     ⟨some 66, none, .bin .sub (.tmp 57) (.tmp 65)⟩,
     ⟨some 10, none, .mov (.tmp 66)⟩] none)
   (.skip)) <|
  .seq (.region [⟨some 67, none, .mov (.tmp 0)⟩,
    ⟨some 68, none, .mov (.tmp 9)⟩,
    ⟨some 69, none, .mov (.tmp 10)⟩,
    ⟨some 70, none, .bin .and (.tmp 69) (.const (.int .i64 65535))⟩,
    ⟨some 71, none, .conv (.toInt .u32) (.tmp 70)⟩,
    ⟨some 72, none, .iaddr 1 (.tmp 67) (.tmp 68)⟩,
    ⟨none, none, .store 1 (.tmp 72) (.tmp 71)⟩] none) <|
  .region [⟨some 73, none, .mov (.tmp 10)⟩,
    ⟨some 74, none, .bin .shr (.tmp 73) (.const (.int .u64 16))⟩,
    ⟨some 8, none, .mov (.tmp 74)⟩] none) <|
  .region [⟨some 75, none, .bin .add (.tmp 44) (.const (.int .i64 1))⟩,
    ⟨some 44, none, .mov (.tmp 75)⟩] none) <|
  .seq (.region [⟨some 76, none, .mov (.tmp 7)⟩,
    ⟨some 77, none, .conv (.toInt .u32) (.tmp 76)⟩,
    ⟨some 4, none, .mov (.tmp 77)⟩] none) <|
  .ret⟩
def fn_ref01_less : AFn := ⟨17, [.tmp 6], false,
  .seq (.region [⟨some 6, none, .mov (.const (.bool false))⟩] none) <|
  .seq (.region [⟨some 8, none, .mov (.tmp 1)⟩,
    ⟨some 9, none, .mov (.tmp 2)⟩,
    ⟨some 10, none, .callf id_ref01_NatOf [.tmp 9]⟩,
    ⟨some 11, none, .callf id_ref01_NatMul [.tmp 8, .tmp 10]⟩,
    ⟨some 7, none, .mov (.tmp 11)⟩] none) <|
  .seq (.region [⟨some 12, none, .mov (.tmp 0)⟩,
    ⟨some 13, none, .callf id_ref01_trim [.tmp 12]⟩,
    ⟨some 14, none, .mov (.tmp 7)⟩,
    ⟨some 15, none, .callf id_ref01_NatCmp [.tmp 13, .tmp 14]⟩,
    ⟨some 16, none, .bin .lss (.tmp 15) (.const (.int .i64 0))⟩,
    ⟨some 6, none, .mov (.tmp 16)⟩] none) <|
  .ret⟩
def fn_ref01_NatDiv : AFn := ⟨95, [.tmp 4, .tmp 5], false,
  .seq (.region [⟨some 4, none, .mov (.const (.nils))⟩,
    ⟨some 5, none, .mov (.const (.nils))⟩] none) <|
  .seq (.seq (.region [⟨some 14, none, .mov (.tmp 1)⟩,
    ⟨some 15, none, .len 1 (.tmp 14)⟩,
    ⟨some 16, none, .bin .eql (.tmp 15) (.const (.int .i64 0))⟩] none) <|
  .cond (.tmp 16)
   (.seq (.region [⟨some 4, none, .mov (.const (.nils))⟩,
     ⟨some 5, none, .mov (.const (.nils))⟩] none) <|
   .ret)
   (.skip)) <|
  .seq (.seq (.region [⟨some 17, none, .mov (.tmp 0)⟩,
    ⟨some 18, none, .mov (.tmp 1)⟩,
    ⟨some 19, none, .callf id_ref01_NatCmp [.tmp 17, .tmp 18]⟩,
    ⟨some 20, none, .bin .lss (.tmp 19) (.const (.int .i64 0))⟩] none) <|
  .cond (.tmp 20)
   (.seq (.region [⟨some 21, none, .bslice 191 1 0 [.int .u32 0] []⟩,
     ⟨some 22, none, .mov (.tmp 0)⟩,
     ⟨some 23, none, .append 191 1 4 (.tmp 21) (.tmp 22)⟩,
     ⟨some 4, none, .mov (.const (.nils))⟩,
     ⟨some 5, none, .mov (.tmp 23)⟩] none) <|
   .ret)
   (.skip)) <|
  .seq (.seq (.region [⟨some 24, none, .mov (.tmp 1)⟩,
    ⟨some 25, none, .len 1 (.tmp 24)⟩,
    ⟨some 26, none, .bin .eql (.tmp 25) (.const (.int .i64 1))⟩] none) <|
  .cond (.tmp 26)
   (.seq (.region [⟨some 28, none, .mov (.tmp 0)⟩,
     ⟨some 29, none, .mov (.tmp 1)⟩,
     ⟨some 30, none, .iaddr 1 (.tmp 29) (.const (.int .i64 0))⟩,
     ⟨some 31, none, .load false 1 (.tmp 30)⟩,
     ⟨some 32, none, .callf id_ref01_small [.tmp 28, .tmp 31]⟩,
     ⟨some 27, none, .mov (.tmp 32)⟩,
     ⟨some 33, none, .extract (.tmp 27) 0⟩,
     ⟨some 34, none, .extract (.tmp 27) 1⟩,
     ⟨some 6, none, .mov (.tmp 33)⟩,
     ⟨some 7, none, .mov (.tmp 34)⟩] none) <|
   .seq (.region [⟨some 35, none, .mov (.tmp 6)⟩,
     ⟨some 36, none, .mov (.tmp 7)⟩,
     ⟨some 37, none, .conv (.toInt .u64) (.tmp 36)⟩,
     ⟨some 38, none, .callf id_ref01_NatOf [.tmp 37]⟩,
     ⟨some 4, none, .mov (.tmp 35)⟩,
     ⟨some 5, none, .mov (.tmp 38)⟩] none) <|
   .ret)
   (.skip)) <|
  .seq (.region [⟨some 8, none, .mov (.const (.int .i64 0))⟩] none) <|
  .seq (.block 0 <|
  .loop <|
  .seq (.seq (.region [⟨some 39, none, .mov (.tmp 1)⟩,
    ⟨some 40, none, .mov (.tmp 1)⟩,
    ⟨some 41, none, .len 1 (.tmp 40)⟩,
    ⟨some 42, none, .bin .sub (.tmp 41) (.const (.int .i64 1))⟩,
    ⟨some 43, none, .iaddr 1 (.tmp 39) (.tmp 42)⟩,
    ⟨some 44, none, .load false 1 (.tmp 43)⟩,
    ⟨some 45, none, .mov (.tmp 8)⟩,
    ⟨some 46, none, .conv (.toInt .u64) (.tmp 45)⟩,
    ⟨some 47, none, .bin .shl (.tmp 44) (.tmp 46)⟩,
    ⟨some 48, none, .bin .lss (.tmp 47) (.const (.int .u32 32768))⟩] none) <|
  .cond (.tmp 48)
   (.skip)
   (.exit 0)) <|
  .block 1 <|
  .region [⟨some 49, none, .mov (.tmp 8)⟩,
    ⟨some 50, none, .bin .add (.tmp 49) (.const (.int .i64 1))⟩,
    ⟨some 8, none, .mov (.tmp 50)⟩] none) <|
  .seq (.region [⟨some 51, none, .mov (.tmp 1)⟩,
    ⟨some 52, none, .mov (.tmp 8)⟩,
    ⟨some 53, none, .callf id_ref01_NatShl [.tmp 51, .tmp 52]⟩,
    ⟨some 9, none, .mov (.tmp 53)⟩] none) <|
  .seq (.region [⟨some 54, none, .mov (.tmp 0)⟩,
    ⟨some 55, none, .mov (.tmp 8)⟩,
    ⟨some 56, none, .callf id_ref01_NatShl [.tmp 54, .tmp 55]⟩,
    ⟨some 57, none, .bslice 191 1 1 [.int .u32 0] [(0, 1, (.const (.int .u32 0)))]⟩,
    ⟨some 58, none, .append 191 1 4 (.tmp 56) (.tmp 57)⟩,
    ⟨some 10, none, .mov (.tmp 58)⟩] none) <|
  .seq (.region [⟨some 59, none, .mov (.tmp 9)⟩,
    ⟨some 60, none, .len 1 (.tmp 59)⟩,
    ⟨some 11, none, .mov (.tmp 60)⟩] none) <|
  .seq (.region [⟨some 61, none, .mov (.tmp 10)⟩,
    ⟨some 62, none, .len 1 (.tmp 61)⟩,
    ⟨some 63, none, .mov (.tmp 11)⟩,
    ⟨some 64, none, .bin .sub (.tmp 62) (.tmp 63)⟩,
    ⟨some 65, none, .mkslice 191 1 4 [.int .u32 0] (.tmp 64) (.tmp 64)⟩,
    ⟨some 12, none, .mov (.tmp 65)⟩] none) <|
  .seq (.seq (.region [⟨some 66, none, .mov (.tmp 10)⟩,
    ⟨some 67, none, .len 1 (.tmp 66)⟩,
    ⟨some 68, none, .mov (.tmp 11)⟩,
    ⟨some 69, none, .bin .sub (.tmp 67) (.tmp 68)⟩,
    ⟨some 70, none, .bin .sub (.tmp 69) (.const (.int .i64 1))⟩,
    ⟨some 13, none, .mov (.tmp 70)⟩] none) <|
  .block 2 <|
  .loop <|
  .seq (.seq (.region [⟨some 71, none, .mov (.tmp 13)⟩,
    ⟨some 72, none, .bin .geq (.tmp 71) (.const (.int .i64 0))⟩] none) <|
  .cond (.tmp 72)
   (.skip)
   (.exit 2)) <|
  .seq (.block 3 <|
  .region [⟨some 75, none, .mov (.tmp 12)⟩,
    ⟨some 76, none, .mov (.tmp 13)⟩,
    ⟨some 77, none, .mov (.tmp 10)⟩,
    ⟨some 78, none, .mov (.tmp 13)⟩,
    ⟨some 79, none, .mov (.tmp 13)⟩,
    ⟨some 80, none, .mov (.tmp 11)⟩,
    ⟨some 81, none, .bin .add (.tmp 79) (.tmp 80)⟩,
    ⟨some 82, none, .bin .add (.tmp 81) (.const (.int .i64 1))⟩,
    ⟨some 83, none, .slice false 1 (.tmp 77) (some (.tmp 78)) (some (.tmp 82))⟩,
    ⟨some 84, none, .mov (.tmp 9)⟩,
    ⟨some 85, none, .callf id_ref01_digit [.tmp 83, .tmp 84]⟩,
    ⟨some 86, none, .iaddr 1 (.tmp 75) (.tmp 76)⟩,
    ⟨none, none, .store 1 (.tmp 86) (.tmp 85)⟩] none) <|
  .region [⟨some 73, none, .mov (.tmp 13)⟩,
    ⟨some 74, none, .bin .sub (.tmp 73) (.const (.int .i64 1))⟩,
    ⟨some 13, none, .mov (.tmp 74)⟩] none) <|
  .seq (.region [⟨some 87, none, .mov (.tmp 12)⟩,
    ⟨some 88, none, .callf id_ref01_trim [.tmp 87]⟩,
    ⟨some 89, none, .mov (.tmp 10)⟩,
    ⟨some 90, none, .mov (.tmp 11)⟩,
    ⟨some 91, none, .slice false 1 (.tmp 89) none (some (.tmp 90))⟩,
    ⟨some 92, none, .callf id_ref01_trim [.tmp 91]⟩,
    ⟨some 93, none, .mov (.tmp 8)⟩,
    ⟨some 94, none, .callf id_ref01_NatShr [.tmp 92, .tmp 93]⟩,
    ⟨some 4, none, .mov (.tmp 88)⟩,
    ⟨some 5, none, .mov (.tmp 94)⟩] (some ⟨[(1, 4)], [[], [2, 3, 4, 6], [], [], [], [6], [], [], [], []]⟩)) <|
  .ret⟩
def fn_ref01_NatGcd : AFn := ⟨19, [.tmp 4], false,
  .seq (.region [⟨some 4, none, .mov (.const (.nils))⟩] none) <|
  .seq (.block 0 <|
  .loop <|
  .seq (.seq (.region [⟨some 7, none, .mov (.tmp 1)⟩,
    ⟨some 8, none, .len 1 (.tmp 7)⟩,
    ⟨some 9, none, .bin .gtr (.tmp 8) (.const (.int .i64 0))⟩] none) <|
  .cond (.tmp 9)
   (.skip)
   (.exit 0)) <|
  .block 1 <|
  .seq (.region [⟨some 11, none, .mov (.tmp 0)⟩,
    ⟨some 12, none, .mov (.tmp 1)⟩,
    ⟨some 13, none, .callf id_ref01_NatDiv [.tmp 11, .tmp 12]⟩,
    ⟨some 10, none, .mov (.tmp 13)⟩,
    ⟨some 14, none, .extract (.tmp 10) 0⟩,
    ⟨some 15, none, .extract (.tmp 10) 1⟩,
    ⟨some 5, none, .mov (.tmp 14)⟩,
    ⟨some 6, none, .mov (.tmp 15)⟩] none) <|
  .region [⟨some 16, none, .mov (.tmp 1)⟩,
    ⟨some 17, none, .mov (.tmp 6)⟩,
    ⟨some 0, none, .mov (.tmp 16)⟩,
    ⟨some 1, none, .mov (.tmp 17)⟩] none) <|
  .seq (.region [⟨some 18, none, .mov (.tmp 0)⟩,
    ⟨some 4, none, .mov (.tmp 18)⟩] none) <|
  .ret⟩
def fn_ref01_Make : AFn := ⟨56, [.cell 6 true 3], false,
  .seq (.region [⟨some 6, none, .alloc 97 3 [.bool false, .nils, .nils]⟩] none) <|
  .seq (.seq (.region [⟨some 12, none, .mov (.tmp 1)⟩,
    ⟨some 13, none, .len 1 (.tmp 12)⟩,
    ⟨some 14, none, .bin .eql (.tmp 13) (.const (.int .i64 0))⟩,
    ⟨some 15, none, .mov (.tmp 14)⟩,
    ⟨some 16, some (15, false), .mov (.tmp 2)⟩,
    ⟨some 17, some (15, false), .len 1 (.tmp 16)⟩,
    ⟨some 18, some (15, false), .bin .eql (.tmp 17) (.const (.int .i64 0))⟩,
    ⟨some 19, none, .pick (.tmp 15) (.const (.bool true)) (.tmp 18)⟩] none) <|
  .cond (.tmp 19)
   (.seq (.region [⟨some 20, none, .callf id_ref01_NatOf [.const (.int .u64 1)]⟩,
     ⟨some 21, none, .build [.bool false, .nils, .nils] [(2, 1, (.tmp 20))]⟩,
     ⟨none, none, .store 3 (.tmp 6) (.tmp 21)⟩] none) <|
   .ret)
   (.skip)) <|
  .seq (.seq (.region [⟨some 22, none, .mov (.tmp 2)⟩,
    ⟨some 23, none, .len 1 (.tmp 22)⟩,
    ⟨some 24, none, .bin .eql (.tmp 23) (.const (.int .i64 1))⟩,
    ⟨some 25, none, .mov (.tmp 24)⟩,
    ⟨some 26, some (25, true), .mov (.tmp 2)⟩,
    ⟨some 27, some (25, true), .iaddr 1 (.tmp 26) (.const (.int .i64 0))⟩,
    ⟨some 28, some (25, true), .load false 1 (.tmp 27)⟩,
    ⟨some 29, some (25, true), .bin .eql (.tmp 28) (.const (.int .u32 1))⟩,
    ⟨some 30, none, .pick (.tmp 25) (.tmp 29) (.const (.bool false))⟩] none) <|
  .cond (.tmp 30)
   (.seq (.region [⟨some 31, none, .mov (.tmp 0)⟩,
     ⟨some 32, none, .bslice 191 1 0 [.int .u32 0] []⟩,
     ⟨some 33, none, .mov (.tmp 1)⟩,
     ⟨some 34, none, .append 191 1 4 (.tmp 32) (.tmp 33)⟩,
     ⟨some 35, none, .callf id_ref01_NatOf [.const (.int .u64 1)]⟩,
     ⟨some 36, none, .build [.bool false, .nils, .nils] [(0, 1, (.tmp 31)), (1, 1, (.tmp 34)), (2, 1, (.tmp 35))]⟩,
     ⟨none, none, .store 3 (.tmp 6) (.tmp 36)⟩] none) <|
   .ret)
   (.skip)) <|
  .seq (.region [⟨some 37, none, .mov (.tmp 1)⟩,
    ⟨some 38, none, .mov (.tmp 2)⟩,
    ⟨some 39, none, .callf id_ref01_NatGcd [.tmp 37, .tmp 38]⟩,
    ⟨some 7, none, .mov (.tmp 39)⟩] none) <|
  .seq (.region [⟨some 41, none, .mov (.tmp 1)⟩,
    ⟨some 42, none, .mov (.tmp 7)⟩,
    ⟨some 43, none, .callf id_ref01_NatDiv [.tmp 41, .tmp 42]⟩,
    ⟨some 40, none, .mov (.tmp 43)⟩,
    ⟨some 44, none, .extract (.tmp 40) 0⟩,
    ⟨some 45, none, .extract (.tmp 40) 1⟩,
    ⟨some 8, none, .mov (.tmp 44)⟩,
    ⟨some 9, none, .mov (.tmp 45)⟩] none) <|
  .seq (.region [⟨some 47, none, .mov (.tmp 2)⟩,
    ⟨some 48, none, .mov (.tmp 7)⟩,
    ⟨some 49, none, .callf id_ref01_NatDiv [.tmp 47, .tmp 48]⟩,
    ⟨some 46, none, .mov (.tmp 49)⟩,
    ⟨some 50, none, .extract (.tmp 46) 0⟩,
    ⟨some 51, none, .extract (.tmp 46) 1⟩,
    ⟨some 10, none, .mov (.tmp 50)⟩,
    ⟨some 11, none, .mov (.tmp 51)⟩] none) <|
  .seq (.region [⟨some 52, none, .mov (.tmp 0)⟩,
    ⟨some 53, none, .mov (.tmp 8)⟩,
    ⟨some 54, none, .mov (.tmp 10)⟩,
    ⟨some 55, none, .build [.bool false, .nils, .nils] [(0, 1, (.tmp 52)), (1, 1, (.tmp 53)), (2, 1, (.tmp 54))]⟩,
    ⟨none, none, .store 3 (.tmp 6) (.tmp 55)⟩] none) <|
  .ret⟩
def fn_ref01_words : AFn := ⟨22, [.tmp 2], false,
  .seq (.region [⟨some 2, none, .mov (.const (.nils))⟩] none) <|
  .seq (.region [⟨some 3, none, .mov (.const (.nils))⟩] none) <|
  .seq (.seq (.region [⟨some 6, none, .mov (.tmp 0)⟩,
    ⟨some 7, none, .len 1 (.tmp 6)⟩,
    ⟨some 8, none, .mov (.const (.int .i64 0))⟩] none) <|
  .block 0 <|
  .loop <|
  .seq (.region [⟨some 9, none, .bin .lss (.tmp 8) (.tmp 7)⟩] none) <|
  .seq (.cond (.tmp 9)
   (.skip)
   (.exit 0)) <|
  .seq (.block 1 <|
  .seq (.region [⟨some 10, none, .iaddr 1 (.tmp 6) (.tmp 8)⟩,
    ⟨some 11, none, .load false 1 (.tmp 10)⟩,
    ⟨some 5, none, .mov (.tmp 11)⟩] none) <|
  .region [⟨some 12, none, .mov (.tmp 3)⟩,
    ⟨some 13, none, .mov (.tmp 5)⟩,
    ⟨some 14, none, .bin .rem (.tmp 13) (.const (.int .u32 65536))⟩,
    ⟨some 15, none, .mov (.tmp 5)⟩,
    ⟨some 16, none, .bin .quo (.tmp 15) (.const (.int .u32 65536))⟩,
    ⟨some 17, none, .bslice 191 1 2 [.int .u32 0] [(0, 1, (.tmp 14)), (1, 1, (.tmp 16))]⟩,
    ⟨some 18, none, .append 191 1 4 (.tmp 12) (.tmp 17)⟩,
    ⟨some 3, none, .mov (.tmp 18)⟩] none) <|
  .region [⟨some 19, none, .bin .add (.tmp 8) (.const (.int .i64 1))⟩,
    ⟨some 8, none, .mov (.tmp 19)⟩] none) <|
  .seq (.region [⟨some 20, none, .mov (.tmp 3)⟩,
    ⟨some 21, none, .callf id_ref01_trim [.tmp 20]⟩,
    ⟨some 2, none, .mov (.tmp 21)⟩] none) <|
  .ret⟩
def fn_ref01_Of : AFn := ⟨18, [.cell 2 true 3], false,
  .seq (.region [⟨some 1, none, .box 24 3 (.tmp 0)⟩,
    ⟨some 2, none, .alloc 97 3 [.bool false, .nils, .nils]⟩] none) <|
  .seq (.region [⟨some 4, none, .faddr 2 (.tmp 1)⟩,
    ⟨some 5, none, .load false 1 (.tmp 4)⟩,
    ⟨some 6, none, .callf id_ref01_words [.tmp 5]⟩,
    ⟨some 3, none, .mov (.tmp 6)⟩] none) <|
  .seq (.seq (.region [⟨some 7, none, .mov (.tmp 3)⟩,
    ⟨some 8, none, .len 1 (.tmp 7)⟩,
    ⟨some 9, none, .bin .eql (.tmp 8) (.const (.int .i64 0))⟩] none) <|
  .cond (.tmp 9)
   (.region [⟨some 10, none, .callf id_ref01_NatOf [.const (.int .u64 1)]⟩,
     ⟨some 3, none, .mov (.tmp 10)⟩] none)
   (.skip)) <|
  .seq (.region [⟨some 11, none, .faddr 0 (.tmp 1)⟩,
    ⟨some 12, none, .load false 1 (.tmp 11)⟩,
    ⟨some 13, none, .faddr 1 (.tmp 1)⟩,
    ⟨some 14, none, .load false 1 (.tmp 13)⟩,
    ⟨some 15, none, .callf id_ref01_words [.tmp 14]⟩,
    ⟨some 16, none, .mov (.tmp 3)⟩,
    ⟨some 17, none, .callf id_ref01_Make [.tmp 12, .tmp 15, .tmp 16]⟩,
    ⟨none, none, .store 3 (.tmp 2) (.tmp 17)⟩] (some ⟨[(1, 3), (1, 4)], [[], [], [], [], [0, 1, 5], [], [], []]⟩)) <|
  .ret⟩
def fn_ref01_Over : AFn := ⟨13, [.tmp 2], false,
  .seq (.region [⟨some 1, none, .box 97 3 (.tmp 0)⟩,
    ⟨some 2, none, .mov (.const (.bool false))⟩] none) <|
  .seq (.region [⟨some 3, none, .faddr 1 (.tmp 1)⟩,
    ⟨some 4, none, .load false 1 (.tmp 3)⟩,
    ⟨some 5, none, .len 1 (.tmp 4)⟩,
    ⟨some 6, none, .bin .gtr (.tmp 5) (.const (.int .i64 128))⟩,
    ⟨some 7, none, .mov (.tmp 6)⟩,
    ⟨some 8, some (7, false), .faddr 2 (.tmp 1)⟩,
    ⟨some 9, some (7, false), .load false 1 (.tmp 8)⟩,
    ⟨some 10, some (7, false), .len 1 (.tmp 9)⟩,
    ⟨some 11, some (7, false), .bin .gtr (.tmp 10) (.const (.int .i64 128))⟩,
    ⟨some 12, none, .pick (.tmp 7) (.const (.bool true)) (.tmp 11)⟩,
    ⟨some 2, none, .mov (.tmp 12)⟩] none) <|
  .ret⟩
def fn_ref01_Large : AFn := ⟨18, [.tmp 2], false,
  .seq (.region [⟨some 1, none, .box 24 3 (.tmp 0)⟩,
    ⟨some 2, none, .mov (.const (.bool false))⟩] none) <|
  .seq (.seq (.region [⟨some 3, none, .faddr 1 (.tmp 1)⟩,
    ⟨some 4, none, .load false 1 (.tmp 3)⟩,
    ⟨some 5, none, .callf id_ref01_words [.tmp 4]⟩,
    ⟨some 6, none, .len 1 (.tmp 5)⟩,
    ⟨some 7, none, .bin .gtr (.tmp 6) (.const (.int .i64 512))⟩,
    ⟨some 8, none, .mov (.tmp 7)⟩,
    ⟨some 9, some (8, false), .faddr 2 (.tmp 1)⟩,
    ⟨some 10, some (8, false), .load false 1 (.tmp 9)⟩,
    ⟨some 11, some (8, false), .callf id_ref01_words [.tmp 10]⟩,
    ⟨some 12, some (8, false), .len 1 (.tmp 11)⟩,
    ⟨some 13, some (8, false), .bin .gtr (.tmp 12) (.const (.int .i64 512))⟩,
    ⟨some 14, none, .pick (.tmp 8) (.const (.bool true)) (.tmp 13)⟩] none) <|
  .cond (.tmp 14)
   (.seq (.region [⟨some 2, none, .mov (.const (.bool true))⟩] none) <|
   .ret)
   (.skip)) <|
  .seq (.region [⟨some 15, none, .load true 3 (.tmp 1)⟩,
    ⟨some 16, none, .callf id_ref01_Of [.tmp 15]⟩,
    ⟨some 17, none, .callf id_ref01_Over [.tmp 16]⟩,
    ⟨some 2, none, .mov (.tmp 17)⟩] none) <|
  .ret⟩
def fn_ref01_Sgn : AFn := ⟨9, [.tmp 2], false,
  .seq (.region [⟨some 1, none, .box 97 3 (.tmp 0)⟩,
    ⟨some 2, none, .mov (.const (.int .i64 0))⟩] none) <|
  .seq (.seq (.region [⟨some 3, none, .faddr 1 (.tmp 1)⟩,
    ⟨some 4, none, .load false 1 (.tmp 3)⟩,
    ⟨some 5, none, .len 1 (.tmp 4)⟩,
    ⟨some 6, none, .bin .eql (.tmp 5) (.const (.int .i64 0))⟩] none) <|
  .cond (.tmp 6)
   (.seq (.region [⟨some 2, none, .mov (.const (.int .i64 0))⟩] none) <|
   .ret)
   (.skip)) <|
  .seq (.seq (.region [⟨some 7, none, .faddr 0 (.tmp 1)⟩,
    ⟨some 8, none, .load false 1 (.tmp 7)⟩] none) <|
  .cond (.tmp 8)
   (.seq (.region [⟨some 2, none, .mov (.const (.int .i64 (-1)))⟩] none) <|
   .ret)
   (.skip)) <|
  .seq (.region [⟨some 2, none, .mov (.const (.int .i64 1))⟩] none) <|
  .ret⟩
def fn_ref01_Zero : AFn := ⟨8, [.tmp 2], false,
  .seq (.region [⟨some 1, none, .box 24 3 (.tmp 0)⟩,
    ⟨some 2, none, .mov (.const (.bool false))⟩] none) <|
  .seq (.region [⟨some 3, none, .faddr 1 (.tmp 1)⟩,
    ⟨some 4, none, .load false 1 (.tmp 3)⟩,
    ⟨some 5, none, .callf id_ref01_words [.tmp 4]⟩,
    ⟨some 6, none, .len 1 (.tmp 5)⟩,
    ⟨some 7, none, .bin .eql (.tmp 6) (.const (.int .i64 0))⟩,
    ⟨some 2, none, .mov (.tmp 7)⟩] none) <|
  .ret⟩
def fn_ref01_Sum : AFn := ⟨53, [.cell 4 true 3], false,
  .seq (.region [⟨some 2, none, .box 97 3 (.tmp 0)⟩,
    ⟨some 3, none, .box 97 3 (.tmp 1)⟩,
    ⟨some 4, none, .alloc 97 3 [.bool false, .nils, .nils]⟩] none) <|
  .seq (.region [⟨some 8, none, .faddr 1 (.tmp 2)⟩,
    ⟨some 9, none, .load false 1 (.tmp 8)⟩,
    ⟨some 10, none, .load true 3 (.tmp 3)⟩,
    ⟨some 11, none, .callf id_ref01_Q_den [.tmp 10]⟩,
    ⟨some 12, none, .callf id_ref01_NatMul [.tmp 9, .tmp 11]⟩,
    ⟨some 13, none, .faddr 1 (.tmp 3)⟩,
    ⟨some 14, none, .load false 1 (.tmp 13)⟩,
    ⟨some 15, none, .load true 3 (.tmp 2)⟩,
    ⟨some 16, none, .callf id_ref01_Q_den [.tmp 15]⟩,
    ⟨some 17, none, .callf id_ref01_NatMul [.tmp 14, .tmp 16]⟩,
    ⟨some 5, none, .mov (.tmp 12)⟩,
    ⟨some 6, none, .mov (.tmp 17)⟩] (some ⟨[(1, 2), (1, 3), (1, 6), (2, 6), (3, 6), (4, 6), (1, 7), (2, 7), (3, 7), (4, 7), (6, 7), (6, 8)], [[], [], [], [0, 1, 5, 6, 7], [5, 6, 7], [], [], [], [5, 6], [], [], []]⟩)) <|
  .seq (.region [⟨some 18, none, .load true 3 (.tmp 2)⟩,
    ⟨some 19, none, .callf id_ref01_Q_den [.tmp 18]⟩,
    ⟨some 20, none, .load true 3 (.tmp 3)⟩,
    ⟨some 21, none, .callf id_ref01_Q_den [.tmp 20]⟩,
    ⟨some 22, none, .callf id_ref01_NatMul [.tmp 19, .tmp 21]⟩,
    ⟨some 7, none, .mov (.tmp 22)⟩] (some ⟨[(0, 2), (1, 2)], [[], [2], [], [], [], []]⟩)) <|
  .seq (.seq (.region [⟨some 23, none, .faddr 0 (.tmp 2)⟩,
    ⟨some 24, none, .load false 1 (.tmp 23)⟩,
    ⟨some 25, none, .faddr 0 (.tmp 3)⟩,
    ⟨some 26, none, .load false 1 (.tmp 25)⟩,
    ⟨some 27, none, .eqbool false (.tmp 24) (.tmp 26)⟩] none) <|
  .cond (.tmp 27)
   (.seq (.region [⟨some 28, none, .faddr 0 (.tmp 2)⟩,
     ⟨some 29, none, .load false 1 (.tmp 28)⟩,
     ⟨some 30, none, .mov (.tmp 5)⟩,
     ⟨some 31, none, .mov (.tmp 6)⟩,
     ⟨some 32, none, .callf id_ref01_NatAdd [.tmp 30, .tmp 31]⟩,
     ⟨some 33, none, .mov (.tmp 7)⟩,
     ⟨some 34, none, .callf id_ref01_Make [.tmp 29, .tmp 32, .tmp 33]⟩,
     ⟨none, none, .store 3 (.tmp 4) (.tmp 34)⟩] (some ⟨[(1, 4)], [[], [], [], [], [0, 1, 5], [], [], []]⟩)) <|
   .ret)
   (.skip)) <|
  .seq (.seq (.region [⟨some 35, none, .mov (.tmp 5)⟩,
    ⟨some 36, none, .mov (.tmp 6)⟩,
    ⟨some 37, none, .callf id_ref01_NatCmp [.tmp 35, .tmp 36]⟩,
    ⟨some 38, none, .bin .geq (.tmp 37) (.const (.int .i64 0))⟩] none) <|
  .cond (.tmp 38)
   (.seq (.region [⟨some 39, none, .faddr 0 (.tmp 2)⟩,
     ⟨some 40, none, .load false 1 (.tmp 39)⟩,
     ⟨some 41, none, .mov (.tmp 5)⟩,
     ⟨some 42, none, .mov (.tmp 6)⟩,
     ⟨some 43, none, .callf id_ref01_NatSub [.tmp 41, .tmp 42]⟩,
     ⟨some 44, none, .mov (.tmp 7)⟩,
     ⟨some 45, none, .callf id_ref01_Make [.tmp 40, .tmp 43, .tmp 44]⟩,
     ⟨none, none, .store 3 (.tmp 4) (.tmp 45)⟩] (some ⟨[(1, 4)], [[], [], [], [], [0, 1, 5], [], [], []]⟩)) <|
   .ret)
   (.skip)) <|
  .seq (.region [⟨some 46, none, .faddr 0 (.tmp 3)⟩,
    ⟨some 47, none, .load false 1 (.tmp 46)⟩,
    ⟨some 48, none, .mov (.tmp 6)⟩,
    ⟨some 49, none, .mov (.tmp 5)⟩,
    ⟨some 50, none, .callf id_ref01_NatSub [.tmp 48, .tmp 49]⟩,
    ⟨some 51, none, .mov (.tmp 7)⟩,
    ⟨some 52, none, .callf id_ref01_Make [.tmp 47, .tmp 50, .tmp 51]⟩,
    ⟨none, none, .store 3 (.tmp 4) (.tmp 52)⟩] (some ⟨[(1, 4)], [[], [], [], [], [0, 1, 5], [], [], []]⟩)) <|
  .ret⟩
def fn_ref01_Opp : AFn := ⟨17, [.cell 2 true 3], false,
  .seq (.region [⟨some 1, none, .box 97 3 (.tmp 0)⟩,
    ⟨some 2, none, .alloc 97 3 [.bool false, .nils, .nils]⟩] none) <|
  .seq (.region [⟨some 3, none, .faddr 0 (.tmp 1)⟩,
    ⟨some 4, none, .load false 1 (.tmp 3)⟩,
    ⟨some 5, none, .un .not (.tmp 4)⟩,
    ⟨some 6, none, .mov (.tmp 5)⟩,
    ⟨some 7, some (6, true), .faddr 1 (.tmp 1)⟩,
    ⟨some 8, some (6, true), .load false 1 (.tmp 7)⟩,
    ⟨some 9, some (6, true), .len 1 (.tmp 8)⟩,
    ⟨some 10, some (6, true), .bin .gtr (.tmp 9) (.const (.int .i64 0))⟩,
    ⟨some 11, none, .pick (.tmp 6) (.tmp 10) (.const (.bool false))⟩,
    ⟨some 12, none, .faddr 1 (.tmp 1)⟩,
    ⟨some 13, none, .load false 1 (.tmp 12)⟩,
    ⟨some 14, none, .faddr 2 (.tmp 1)⟩,
    ⟨some 15, none, .load false 1 (.tmp 14)⟩,
    ⟨some 16, none, .build [.bool false, .nils, .nils] [(0, 1, (.tmp 11)), (1, 1, (.tmp 13)), (2, 1, (.tmp 15))]⟩,
    ⟨none, none, .store 3 (.tmp 2) (.tmp 16)⟩] none) <|
  .ret⟩
def fn_ref01_Diff : AFn := ⟨9, [.cell 4 true 3], false,
  .seq (.region [⟨some 2, none, .box 97 3 (.tmp 0)⟩,
    ⟨some 3, none, .box 97 3 (.tmp 1)⟩,
    ⟨some 4, none, .alloc 97 3 [.bool false, .nils, .nils]⟩] none) <|
  .seq (.region [⟨some 5, none, .load true 3 (.tmp 2)⟩,
    ⟨some 6, none, .load true 3 (.tmp 3)⟩,
    ⟨some 7, none, .callf id_ref01_Opp [.tmp 6]⟩,
    ⟨some 8, none, .callf id_ref01_Sum [.tmp 5, .tmp 7]⟩,
    ⟨none, none, .store 3 (.tmp 4) (.tmp 8)⟩] (some ⟨[(0, 1), (0, 2)], [[], [], [0], [], []]⟩)) <|
  .ret⟩
def fn_ref01_Cmp : AFn := ⟨9, [.tmp 4], false,
  .seq (.region [⟨some 2, none, .box 97 3 (.tmp 0)⟩,
    ⟨some 3, none, .box 97 3 (.tmp 1)⟩,
    ⟨some 4, none, .mov (.const (.int .i64 0))⟩] none) <|
  .seq (.region [⟨some 5, none, .load true 3 (.tmp 2)⟩,
    ⟨some 6, none, .load true 3 (.tmp 3)⟩,
    ⟨some 7, none, .callf id_ref01_Diff [.tmp 5, .tmp 6]⟩,
    ⟨some 8, none, .callf id_ref01_Sgn [.tmp 7]⟩,
    ⟨some 4, none, .mov (.tmp 8)⟩] none) <|
  .ret⟩
def fn_ref01_Q_den : AFn := ⟨10, [.tmp 2], false,
  .seq (.region [⟨some 1, none, .box 97 3 (.tmp 0)⟩,
    ⟨some 2, none, .mov (.const (.nils))⟩] none) <|
  .seq (.seq (.region [⟨some 3, none, .faddr 2 (.tmp 1)⟩,
    ⟨some 4, none, .load false 1 (.tmp 3)⟩,
    ⟨some 5, none, .len 1 (.tmp 4)⟩,
    ⟨some 6, none, .bin .eql (.tmp 5) (.const (.int .i64 0))⟩] none) <|
  .cond (.tmp 6)
   (.seq (.region [⟨some 7, none, .callf id_ref01_NatOf [.const (.int .u64 1)]⟩,
     ⟨some 2, none, .mov (.tmp 7)⟩] none) <|
   .ret)
   (.skip)) <|
  .seq (.region [⟨some 8, none, .faddr 2 (.tmp 1)⟩,
    ⟨some 9, none, .load false 1 (.tmp 8)⟩,
    ⟨some 2, none, .mov (.tmp 9)⟩] none) <|
  .ret⟩
end Go.Am
end
section
set_option maxRecDepth 4000
namespace Go.Am
open Go
abbrev id_ref06_Free : FuncId := 20
abbrev id_ref06_Valid : FuncId := 27
abbrev id_ref03_Of : FuncId := 47
abbrev id_ref06_named : FuncId := 63
abbrev id_ref06_free : FuncId := 64
abbrev id_ref04_Valid : FuncId := 73
abbrev id_ref05_Valid : FuncId := 74
abbrev id_ref06_covered : FuncId := 75
abbrev id_ref06_side : FuncId := 83
abbrev id_ref03_None : FuncId := 127
abbrev id_ref04_Has : FuncId := 138
abbrev id_ref04_walk : FuncId := 144
abbrev id_ref04_IsName : FuncId := 145
abbrev id_ref03_Large : FuncId := 146
abbrev id_ref04_Names : FuncId := 147
abbrev id_ref04_reserved : FuncId := 204
abbrev id_ref04_node : FuncId := 239
abbrev id_ref04_word : FuncId := 240
abbrev id_ref04_put : FuncId := 241
abbrev id_ref04_kids : FuncId := 321
abbrev id_ref04_argument : FuncId := 322
def fn_ref03_None : AFn := ⟨2, [.cell 0 true 9], false,
  .seq (.region [⟨some 0, none, .alloc 99 9 [.bool false, .nils, .nils, .bool false, .nils, .nils, .bool false, .bool false, .bool false]⟩] none) <|
  .seq (.region [⟨some 1, none, .build [.bool false, .nils, .nils, .bool false, .nils, .nils, .bool false, .bool false, .bool false] [(8, 1, (.const (.bool true)))]⟩,
    ⟨none, none, .store 9 (.tmp 0) (.tmp 1)⟩] none) <|
  .ret⟩
def fn_ref03_Of : AFn := ⟨36, [.cell 2 true 9], false,
  .seq (.region [⟨some 1, none, .box 39 8 (.tmp 0)⟩,
    ⟨some 2, none, .alloc 99 9 [.bool false, .nils, .nils, .bool false, .nils, .nils, .bool false, .bool false, .bool false]⟩] none) <|
  .seq (.region [⟨some 3, none, .alloc 99 9 [.bool false, .nils, .nils, .bool false, .nils, .nils, .bool false, .bool false, .bool false]⟩] none) <|
  .seq (.seq (.region [⟨some 4, none, .faddr 6 (.tmp 1)⟩,
    ⟨some 5, none, .load false 1 (.tmp 4)⟩] none) <|
  .cond (.tmp 5)
   (.region [⟨some 6, none, .faddr 6 (.tmp 3)⟩,
     ⟨none, none, .store 1 (.tmp 6) (.const (.bool true))⟩] none)
   (.region [⟨some 7, none, .faddr 0 (.tmp 1)⟩,
     ⟨some 8, none, .load true 3 (.tmp 7)⟩,
     ⟨some 9, none, .callf id_ref01_Of [.tmp 8]⟩,
     ⟨some 10, none, .faddr 0 (.tmp 3)⟩,
     ⟨none, none, .store 3 (.tmp 10) (.tmp 9)⟩] none)) <|
  .seq (.seq (.region [⟨some 11, none, .faddr 7 (.tmp 1)⟩,
    ⟨some 12, none, .load false 1 (.tmp 11)⟩] none) <|
  .cond (.tmp 12)
   (.region [⟨some 13, none, .faddr 7 (.tmp 3)⟩,
     ⟨none, none, .store 1 (.tmp 13) (.const (.bool true))⟩] none)
   (.region [⟨some 14, none, .faddr 3 (.tmp 1)⟩,
     ⟨some 15, none, .load true 3 (.tmp 14)⟩,
     ⟨some 16, none, .callf id_ref01_Of [.tmp 15]⟩,
     ⟨some 17, none, .faddr 3 (.tmp 3)⟩,
     ⟨none, none, .store 3 (.tmp 17) (.tmp 16)⟩] none)) <|
  .seq (.seq (.region [⟨some 18, none, .faddr 6 (.tmp 1)⟩,
    ⟨some 19, none, .load false 1 (.tmp 18)⟩,
    ⟨some 20, none, .un .not (.tmp 19)⟩,
    ⟨some 21, none, .mov (.tmp 20)⟩,
    ⟨some 22, some (21, true), .faddr 7 (.tmp 1)⟩,
    ⟨some 23, some (21, true), .load false 1 (.tmp 22)⟩,
    ⟨some 24, some (21, true), .un .not (.tmp 23)⟩,
    ⟨some 25, none, .pick (.tmp 21) (.tmp 24) (.const (.bool false))⟩,
    ⟨some 26, none, .mov (.tmp 25)⟩,
    ⟨some 27, some (26, true), .faddr 0 (.tmp 3)⟩,
    ⟨some 28, some (26, true), .load true 3 (.tmp 27)⟩,
    ⟨some 29, some (26, true), .faddr 3 (.tmp 3)⟩,
    ⟨some 30, some (26, true), .load true 3 (.tmp 29)⟩,
    ⟨some 31, some (26, true), .callf id_ref01_Cmp [.tmp 28, .tmp 30]⟩,
    ⟨some 32, some (26, true), .bin .gtr (.tmp 31) (.const (.int .i64 0))⟩,
    ⟨some 33, none, .pick (.tmp 26) (.tmp 32) (.const (.bool false))⟩] none) <|
  .cond (.tmp 33)
   (.seq (.region [⟨some 34, none, .callf id_ref03_None []⟩,
     ⟨none, none, .store 9 (.tmp 2) (.tmp 34)⟩] none) <|
   .ret)
   (.skip)) <|
  .seq (.region [⟨some 35, none, .load true 9 (.tmp 3)⟩,
    ⟨none, none, .store 9 (.tmp 2) (.tmp 35)⟩] none) <|
  .ret⟩
def fn_ref03_Large : AFn := ⟨11, [.tmp 2], false,
  .seq (.region [⟨some 1, none, .box 39 8 (.tmp 0)⟩,
    ⟨some 2, none, .mov (.const (.bool false))⟩] none) <|
  .seq (.region [⟨some 3, none, .faddr 0 (.tmp 1)⟩,
    ⟨some 4, none, .load true 3 (.tmp 3)⟩,
    ⟨some 5, none, .callf id_ref01_Large [.tmp 4]⟩,
    ⟨some 6, none, .mov (.tmp 5)⟩,
    ⟨some 7, some (6, false), .faddr 3 (.tmp 1)⟩,
    ⟨some 8, some (6, false), .load true 3 (.tmp 7)⟩,
    ⟨some 9, some (6, false), .callf id_ref01_Large [.tmp 8]⟩,
    ⟨some 10, none, .pick (.tmp 6) (.const (.bool true)) (.tmp 9)⟩,
    ⟨some 2, none, .mov (.tmp 10)⟩] none) <|
  .ret⟩
def fn_ref04_reserved : AFn := ⟨2, [.tmp 0], false,
  .seq (.region [⟨some 0, none, .mov (.const (.nils))⟩] none) <|
  .seq (.region [⟨some 1, none, .bslice 9 1 19 [.str []] [(0, 1, (.const (.str [101, 120, 112]))), (1, 1, (.const (.str [108, 111, 103]))), (2, 1, (.const (.str [115, 105, 110]))), (3, 1, (.const (.str [99, 111, 115]))), (4, 1, (.const (.str [116, 97, 110]))), (5, 1, (.const (.str [97, 115, 105, 110]))), (6, 1, (.const (.str [97, 99, 111, 115]))), (7, 1, (.const (.str [97, 116, 97, 110]))), (8, 1, (.const (.str [112, 105]))), (9, 1, (.const (.str [97, 98, 115]))), (10, 1, (.const (.str [109, 105, 110]))), (11, 1, (.const (.str [109, 97, 120]))), (12, 1, (.const (.str [114, 111, 111, 116]))), (13, 1, (.const (.str [115, 113, 114, 116]))), (14, 1, (.const (.str [105, 102]))), (15, 1, (.const (.str [105, 110, 102]))), (16, 1, (.const (.str [102, 111, 114]))), (17, 1, (.const (.str [105, 110]))), (18, 1, (.const (.str [119, 104, 101, 114, 101])))]⟩,
    ⟨some 0, none, .mov (.tmp 1)⟩] none) <|
  .ret⟩
def fn_ref04_word : AFn := ⟨42, [.tmp 2], false,
  .seq (.region [⟨some 2, none, .mov (.const (.bool false))⟩] none) <|
  .seq (.seq (.region [⟨some 3, none, .mov (.const (.int .i64 0))⟩] none) <|
  .block 0 <|
  .loop <|
  .seq (.seq (.region [⟨some 5, none, .mov (.tmp 3)⟩,
    ⟨some 6, none, .mov (.tmp 0)⟩,
    ⟨some 7, none, .len 0 (.tmp 6)⟩,
    ⟨some 8, none, .bin .lss (.tmp 5) (.tmp 7)⟩] none) <|
  .cond (.tmp 8)
   (.skip)
   (.exit 0)) <|
  .seq (.block 1 <|
  .seq (.region [⟨some 11, none, .mov (.tmp 0)⟩,
    ⟨some 12, none, .mov (.tmp 3)⟩,
    ⟨some 13, none, .index (.tmp 11) (.tmp 12)⟩,
    ⟨some 14, none, .bin .geq (.tmp 13) (.const (.int .u8 97))⟩,
    ⟨some 15, none, .mov (.tmp 14)⟩,
    ⟨some 16, some (15, true), .mov (.tmp 0)⟩,
    ⟨some 17, some (15, true), .mov (.tmp 3)⟩,
    ⟨some 18, some (15, true), .index (.tmp 16) (.tmp 17)⟩,
    ⟨some 19, some (15, true), .bin .leq (.tmp 18) (.const (.int .u8 122))⟩,
    ⟨some 20, none, .pick (.tmp 15) (.tmp 19) (.const (.bool false))⟩,
    ⟨some 4, none, .mov (.tmp 20)⟩] none) <|
  .seq (.region [⟨some 21, none, .mov (.tmp 4)⟩,
    ⟨some 22, none, .un .not (.tmp 21)⟩,
    ⟨some 23, none, .mov (.tmp 22)⟩,
    ⟨some 24, some (23, true), .mov (.tmp 3)⟩,
    ⟨some 25, some (23, true), .bin .eql (.tmp 24) (.const (.int .i64 0))⟩,
    ⟨some 26, some (23, true), .mov (.tmp 25)⟩,
    ⟨some 27, some (26, false), .mov (.tmp 0)⟩,
    ⟨some 28, some (26, false), .mov (.tmp 3)⟩,
    ⟨some 29, some (26, false), .index (.tmp 27) (.tmp 28)⟩,
    ⟨some 30, some (26, false), .bin .lss (.tmp 29) (.const (.int .u8 48))⟩,
    ⟨some 31, some (23, true), .pick (.tmp 26) (.const (.bool true)) (.tmp 30)⟩,
    ⟨some 32, some (23, true), .mov (.tmp 31)⟩,
    ⟨some 33, some (32, false), .mov (.tmp 0)⟩,
    ⟨some 34, some (32, false), .mov (.tmp 3)⟩,
    ⟨some 35, some (32, false), .index (.tmp 33) (.tmp 34)⟩,
    ⟨some 36, some (32, false), .bin .gtr (.tmp 35) (.const (.int .u8 57))⟩,
    ⟨some 37, some (23, true), .pick (.tmp 32) (.const (.bool true)) (.tmp 36)⟩,
    ⟨some 38, none, .pick (.tmp 23) (.tmp 37) (.const (.bool false))⟩] none) <|
  .cond (.tmp 38)
   (.seq (.region [⟨some 2, none, .mov (.const (.bool false))⟩] none) <|
   .ret)
   (.skip)) <|
  .region [⟨some 9, none, .mov (.tmp 3)⟩,
    ⟨some 10, none, .bin .add (.tmp 9) (.const (.int .i64 1))⟩,
    ⟨some 3, none, .mov (.tmp 10)⟩] none) <|
  .seq (.region [⟨some 39, none, .mov (.tmp 0)⟩,
    ⟨some 40, none, .len 0 (.tmp 39)⟩,
    ⟨some 41, none, .bin .gtr (.tmp 40) (.const (.int .i64 0))⟩,
    ⟨some 2, none, .mov (.tmp 41)⟩] none) <|
  .ret⟩
def fn_ref04_IsName : AFn := ⟨26, [.tmp 2], false,
  .seq (.region [⟨some 2, none, .mov (.const (.bool false))⟩] none) <|
  .seq (.seq (.region [⟨some 5, none, .mov (.tmp 0)⟩,
    ⟨some 6, none, .len 0 (.tmp 5)⟩,
    ⟨some 7, none, .bin .gtr (.tmp 6) (.const (.int .i64 8))⟩,
    ⟨some 8, none, .mov (.tmp 7)⟩,
    ⟨some 9, some (8, false), .mov (.tmp 0)⟩,
    ⟨some 10, some (8, false), .callf id_ref04_word [.tmp 9]⟩,
    ⟨some 11, some (8, false), .un .not (.tmp 10)⟩,
    ⟨some 12, none, .pick (.tmp 8) (.const (.bool true)) (.tmp 11)⟩] none) <|
  .cond (.tmp 12)
   (.seq (.region [⟨some 2, none, .mov (.const (.bool false))⟩] none) <|
   .ret)
   (.skip)) <|
  .seq (.region [⟨some 13, none, .callf id_ref04_reserved []⟩,
    ⟨some 3, none, .mov (.tmp 13)⟩] none) <|
  .seq (.seq (.region [⟨some 4, none, .mov (.const (.int .i64 0))⟩] none) <|
  .block 0 <|
  .loop <|
  .seq (.seq (.region [⟨some 14, none, .mov (.tmp 4)⟩,
    ⟨some 15, none, .mov (.tmp 3)⟩,
    ⟨some 16, none, .len 1 (.tmp 15)⟩,
    ⟨some 17, none, .bin .lss (.tmp 14) (.tmp 16)⟩] none) <|
  .cond (.tmp 17)
   (.skip)
   (.exit 0)) <|
  .seq (.block 1 <|
  .seq (.region [⟨some 20, none, .mov (.tmp 3)⟩,
    ⟨some 21, none, .mov (.tmp 4)⟩,
    ⟨some 22, none, .iaddr 1 (.tmp 20) (.tmp 21)⟩,
    ⟨some 23, none, .load false 1 (.tmp 22)⟩,
    ⟨some 24, none, .mov (.tmp 0)⟩,
    ⟨some 25, none, .bin .eql (.tmp 23) (.tmp 24)⟩] none) <|
  .cond (.tmp 25)
   (.seq (.region [⟨some 2, none, .mov (.const (.bool false))⟩] none) <|
   .ret)
   (.skip)) <|
  .region [⟨some 18, none, .mov (.tmp 4)⟩,
    ⟨some 19, none, .bin .add (.tmp 18) (.const (.int .i64 1))⟩,
    ⟨some 4, none, .mov (.tmp 19)⟩] none) <|
  .seq (.region [⟨some 2, none, .mov (.const (.bool true))⟩] none) <|
  .ret⟩
def fn_ref04_kids : AFn := ⟨23, [.tmp 2], false,
  .seq (.region [⟨some 2, none, .mov (.const (.int .i64 0))⟩] none) <|
  .seq (.seq (.region [⟨some 3, none, .mov (.tmp 0)⟩] none) <|
  .block 0 <|
  .seq (.seq (.region [⟨some 5, none, .bin .eql (.tmp 3) (.const (.int .i64 1))⟩,
    ⟨some 4, none, .mov (.tmp 5)⟩] none) <|
  .cond (.tmp 4)
   (.skip)
   (.seq (.region [⟨some 6, none, .bin .eql (.tmp 3) (.const (.int .i64 2))⟩,
     ⟨some 4, none, .mov (.tmp 6)⟩] none) <|
   .cond (.tmp 4)
    (.skip)
    (.region [⟨some 7, none, .bin .eql (.tmp 3) (.const (.int .i64 3))⟩,
      ⟨some 4, none, .mov (.tmp 7)⟩] none))) <|
  .cond (.tmp 4)
   (.seq (.region [⟨some 2, none, .mov (.const (.int .i64 0))⟩] none) <|
   .ret)
   (.seq (.seq (.region [⟨some 9, none, .bin .eql (.tmp 3) (.const (.int .i64 4))⟩,
     ⟨some 8, none, .mov (.tmp 9)⟩] none) <|
   .cond (.tmp 8)
    (.skip)
    (.seq (.region [⟨some 10, none, .bin .eql (.tmp 3) (.const (.int .i64 9))⟩,
      ⟨some 8, none, .mov (.tmp 10)⟩] none) <|
    .cond (.tmp 8)
     (.skip)
     (.seq (.region [⟨some 11, none, .bin .eql (.tmp 3) (.const (.int .i64 10))⟩,
       ⟨some 8, none, .mov (.tmp 11)⟩] none) <|
     .cond (.tmp 8)
      (.skip)
      (.seq (.region [⟨some 12, none, .bin .eql (.tmp 3) (.const (.int .i64 11))⟩,
        ⟨some 8, none, .mov (.tmp 12)⟩] none) <|
      .cond (.tmp 8)
       (.skip)
       (.region [⟨some 13, none, .bin .eql (.tmp 3) (.const (.int .i64 12))⟩,
         ⟨some 8, none, .mov (.tmp 13)⟩] none))))) <|
   .cond (.tmp 8)
    (.seq (.region [⟨some 2, none, .mov (.const (.int .i64 1))⟩] none) <|
    .ret)
    (.seq (.seq (.region [⟨some 15, none, .bin .eql (.tmp 3) (.const (.int .i64 5))⟩,
      ⟨some 14, none, .mov (.tmp 15)⟩] none) <|
    .cond (.tmp 14)
     (.skip)
     (.seq (.region [⟨some 16, none, .bin .eql (.tmp 3) (.const (.int .i64 6))⟩,
       ⟨some 14, none, .mov (.tmp 16)⟩] none) <|
     .cond (.tmp 14)
      (.skip)
      (.seq (.region [⟨some 17, none, .bin .eql (.tmp 3) (.const (.int .i64 7))⟩,
        ⟨some 14, none, .mov (.tmp 17)⟩] none) <|
      .cond (.tmp 14)
       (.skip)
       (.seq (.region [⟨some 18, none, .bin .eql (.tmp 3) (.const (.int .i64 8))⟩,
         ⟨some 14, none, .mov (.tmp 18)⟩] none) <|
       .cond (.tmp 14)
        (.skip)
        (.seq (.region [⟨some 19, none, .bin .eql (.tmp 3) (.const (.int .i64 13))⟩,
          ⟨some 14, none, .mov (.tmp 19)⟩] none) <|
        .cond (.tmp 14)
         (.skip)
         (.region [⟨some 20, none, .bin .eql (.tmp 3) (.const (.int .i64 14))⟩,
           ⟨some 14, none, .mov (.tmp 20)⟩] none)))))) <|
    .cond (.tmp 14)
     (.seq (.region [⟨some 2, none, .mov (.const (.int .i64 2))⟩] none) <|
     .ret)
     (.seq (.region [⟨some 22, none, .bin .eql (.tmp 3) (.const (.int .i64 15))⟩,
       ⟨some 21, none, .mov (.tmp 22)⟩] none) <|
     .cond (.tmp 21)
      (.seq (.region [⟨some 2, none, .mov (.const (.int .i64 3))⟩] none) <|
      .ret)
      (.skip))))) <|
  .seq (.region [⟨some 2, none, .mov (.const (.int .i64 (-1)))⟩] none) <|
  .ret⟩
def fn_ref04_argument : AFn := ⟨38, [.tmp 2], false,
  .seq (.region [⟨some 1, none, .box 27 7 (.tmp 0)⟩,
    ⟨some 2, none, .mov (.const (.bool false))⟩] none) <|
  .seq (.seq (.region [⟨some 3, none, .faddr 0 (.tmp 1)⟩,
    ⟨some 4, none, .load false 1 (.tmp 3)⟩] none) <|
  .block 0 <|
  .seq (.region [⟨some 6, none, .bin .eql (.tmp 4) (.const (.int .i64 9))⟩,
    ⟨some 5, none, .mov (.tmp 6)⟩] none) <|
  .cond (.tmp 5)
   (.seq (.region [⟨some 7, none, .faddr 1 (.tmp 1)⟩,
     ⟨some 8, none, .load false 1 (.tmp 7)⟩,
     ⟨some 9, none, .bin .geq (.tmp 8) (.const (.int .i64 (-32)))⟩,
     ⟨some 10, none, .mov (.tmp 9)⟩,
     ⟨some 11, some (10, true), .faddr 1 (.tmp 1)⟩,
     ⟨some 12, some (10, true), .load false 1 (.tmp 11)⟩,
     ⟨some 13, some (10, true), .bin .leq (.tmp 12) (.const (.int .i64 32))⟩,
     ⟨some 14, none, .pick (.tmp 10) (.tmp 13) (.const (.bool false))⟩,
     ⟨some 2, none, .mov (.tmp 14)⟩] none) <|
   .ret)
   (.seq (.region [⟨some 16, none, .bin .eql (.tmp 4) (.const (.int .i64 10))⟩,
     ⟨some 15, none, .mov (.tmp 16)⟩] none) <|
   .cond (.tmp 15)
    (.seq (.region [⟨some 17, none, .faddr 1 (.tmp 1)⟩,
      ⟨some 18, none, .load false 1 (.tmp 17)⟩,
      ⟨some 19, none, .bin .geq (.tmp 18) (.const (.int .i64 2))⟩,
      ⟨some 20, none, .mov (.tmp 19)⟩,
      ⟨some 21, some (20, true), .faddr 1 (.tmp 1)⟩,
      ⟨some 22, some (20, true), .load false 1 (.tmp 21)⟩,
      ⟨some 23, some (20, true), .bin .leq (.tmp 22) (.const (.int .i64 8))⟩,
      ⟨some 24, none, .pick (.tmp 20) (.tmp 23) (.const (.bool false))⟩,
      ⟨some 2, none, .mov (.tmp 24)⟩] none) <|
    .ret)
    (.seq (.region [⟨some 26, none, .bin .eql (.tmp 4) (.const (.int .i64 11))⟩,
      ⟨some 25, none, .mov (.tmp 26)⟩] none) <|
    .cond (.tmp 25)
     (.seq (.region [⟨some 27, none, .faddr 1 (.tmp 1)⟩,
       ⟨some 28, none, .load false 1 (.tmp 27)⟩,
       ⟨some 29, none, .bin .geq (.tmp 28) (.const (.int .i64 1))⟩,
       ⟨some 30, none, .mov (.tmp 29)⟩,
       ⟨some 31, some (30, true), .faddr 1 (.tmp 1)⟩,
       ⟨some 32, some (30, true), .load false 1 (.tmp 31)⟩,
       ⟨some 33, some (30, true), .bin .leq (.tmp 32) (.const (.int .i64 8))⟩,
       ⟨some 34, none, .pick (.tmp 30) (.tmp 33) (.const (.bool false))⟩,
       ⟨some 2, none, .mov (.tmp 34)⟩] none) <|
     .ret)
     (.skip)))) <|
  .seq (.region [⟨some 35, none, .faddr 1 (.tmp 1)⟩,
    ⟨some 36, none, .load false 1 (.tmp 35)⟩,
    ⟨some 37, none, .bin .eql (.tmp 36) (.const (.int .i64 0))⟩,
    ⟨some 2, none, .mov (.tmp 37)⟩] none) <|
  .ret⟩
def fn_ref04_node : AFn := ⟨47, [.tmp 2], false,
  .seq (.region [⟨some 1, none, .box 27 7 (.tmp 0)⟩,
    ⟨some 2, none, .mov (.const (.bool false))⟩] none) <|
  .seq (.seq (.region [⟨some 3, none, .faddr 0 (.tmp 1)⟩,
    ⟨some 4, none, .load false 1 (.tmp 3)⟩,
    ⟨some 5, none, .callf id_ref04_kids [.tmp 4]⟩,
    ⟨some 6, none, .faddr 6 (.tmp 1)⟩,
    ⟨some 7, none, .load false 1 (.tmp 6)⟩,
    ⟨some 8, none, .len 1 (.tmp 7)⟩,
    ⟨some 9, none, .bin .neq (.tmp 5) (.tmp 8)⟩,
    ⟨some 10, none, .mov (.tmp 9)⟩,
    ⟨some 11, some (10, false), .load true 7 (.tmp 1)⟩,
    ⟨some 12, some (10, false), .callf id_ref04_argument [.tmp 11]⟩,
    ⟨some 13, some (10, false), .un .not (.tmp 12)⟩,
    ⟨some 14, none, .pick (.tmp 10) (.const (.bool true)) (.tmp 13)⟩] (some ⟨[(1, 4), (2, 4)], [[], [], [3, 4, 5], [], [], [], [], [], [], [], [], []]⟩)) <|
  .cond (.tmp 14)
   (.seq (.region [⟨some 2, none, .mov (.const (.bool false))⟩] none) <|
   .ret)
   (.skip)) <|
  .seq (.seq (.region [⟨some 15, none, .faddr 0 (.tmp 1)⟩,
    ⟨some 16, none, .load false 1 (.tmp 15)⟩,
    ⟨some 17, none, .bin .eql (.tmp 16) (.const (.int .i64 1))⟩] none) <|
  .cond (.tmp 17)
   (.seq (.region [⟨some 18, none, .faddr 2 (.tmp 1)⟩,
     ⟨some 19, none, .load true 3 (.tmp 18)⟩,
     ⟨some 20, none, .callf id_ref01_Large [.tmp 19]⟩,
     ⟨some 21, none, .un .not (.tmp 20)⟩,
     ⟨some 22, none, .mov (.tmp 21)⟩,
     ⟨some 23, some (22, true), .faddr 2 (.tmp 1)⟩,
     ⟨some 24, some (22, true), .load true 3 (.tmp 23)⟩,
     ⟨some 25, some (22, true), .callf id_ref01_Of [.tmp 24]⟩,
     ⟨some 26, some (22, true), .callf id_ref01_Sgn [.tmp 25]⟩,
     ⟨some 27, some (22, true), .bin .geq (.tmp 26) (.const (.int .i64 0))⟩,
     ⟨some 28, none, .pick (.tmp 22) (.tmp 27) (.const (.bool false))⟩,
     ⟨some 29, none, .mov (.tmp 28)⟩,
     ⟨some 30, some (29, true), .faddr 5 (.tmp 1)⟩,
     ⟨some 31, some (29, true), .load false 1 (.tmp 30)⟩,
     ⟨some 32, some (29, true), .bin .eql (.tmp 31) (.const (.str []))⟩,
     ⟨some 33, none, .pick (.tmp 29) (.tmp 32) (.const (.bool false))⟩,
     ⟨some 2, none, .mov (.tmp 33)⟩] none) <|
   .ret)
   (.skip)) <|
  .seq (.seq (.region [⟨some 34, none, .faddr 2 (.tmp 1)⟩,
    ⟨some 35, none, .load true 3 (.tmp 34)⟩,
    ⟨some 36, none, .callf id_ref01_Zero [.tmp 35]⟩,
    ⟨some 37, none, .un .not (.tmp 36)⟩] none) <|
  .cond (.tmp 37)
   (.seq (.region [⟨some 2, none, .mov (.const (.bool false))⟩] none) <|
   .ret)
   (.skip)) <|
  .seq (.seq (.region [⟨some 38, none, .faddr 0 (.tmp 1)⟩,
    ⟨some 39, none, .load false 1 (.tmp 38)⟩,
    ⟨some 40, none, .bin .eql (.tmp 39) (.const (.int .i64 2))⟩] none) <|
  .cond (.tmp 40)
   (.seq (.region [⟨some 41, none, .faddr 5 (.tmp 1)⟩,
     ⟨some 42, none, .load false 1 (.tmp 41)⟩,
     ⟨some 43, none, .callf id_ref04_IsName [.tmp 42]⟩,
     ⟨some 2, none, .mov (.tmp 43)⟩] none) <|
   .ret)
   (.skip)) <|
  .seq (.region [⟨some 44, none, .faddr 5 (.tmp 1)⟩,
    ⟨some 45, none, .load false 1 (.tmp 44)⟩,
    ⟨some 46, none, .bin .eql (.tmp 45) (.const (.str []))⟩,
    ⟨some 2, none, .mov (.tmp 46)⟩] none) <|
  .ret⟩
def fn_ref04_walk : AFn := ⟨40, [.tmp 6], false,
  .seq (.region [⟨some 3, none, .box 27 7 (.tmp 0)⟩,
    ⟨some 6, none, .mov (.const (.int .i64 0))⟩] none) <|
  .seq (.seq (.region [⟨some 8, none, .mov (.tmp 1)⟩,
    ⟨some 9, none, .bin .gtr (.tmp 8) (.const (.int .i64 30))⟩,
    ⟨some 10, none, .mov (.tmp 9)⟩,
    ⟨some 11, some (10, false), .mov (.tmp 2)⟩,
    ⟨some 12, some (10, false), .bin .leq (.tmp 11) (.const (.int .i64 0))⟩,
    ⟨some 13, none, .pick (.tmp 10) (.const (.bool true)) (.tmp 12)⟩,
    ⟨some 14, none, .mov (.tmp 13)⟩,
    ⟨some 15, some (14, false), .load true 7 (.tmp 3)⟩,
    ⟨some 16, some (14, false), .callf id_ref04_node [.tmp 15]⟩,
    ⟨some 17, some (14, false), .un .not (.tmp 16)⟩,
    ⟨some 18, none, .pick (.tmp 14) (.const (.bool true)) (.tmp 17)⟩] none) <|
  .cond (.tmp 18)
   (.seq (.region [⟨some 6, none, .mov (.const (.int .i64 (-1)))⟩] none) <|
   .ret)
   (.skip)) <|
  .seq (.region [⟨some 19, none, .mov (.tmp 2)⟩,
    ⟨some 20, none, .bin .sub (.tmp 19) (.const (.int .i64 1))⟩,
    ⟨some 2, none, .mov (.tmp 20)⟩] none) <|
  .seq (.seq (.region [⟨some 7, none, .mov (.const (.int .i64 0))⟩] none) <|
  .block 0 <|
  .loop <|
  .seq (.seq (.region [⟨some 21, none, .mov (.tmp 7)⟩,
    ⟨some 22, none, .faddr 6 (.tmp 3)⟩,
    ⟨some 23, none, .load false 1 (.tmp 22)⟩,
    ⟨some 24, none, .len 1 (.tmp 23)⟩,
    ⟨some 25, none, .bin .lss (.tmp 21) (.tmp 24)⟩] none) <|
  .cond (.tmp 25)
   (.skip)
   (.exit 0)) <|
  .seq (.block 1 <|
  .seq (.region [⟨some 28, none, .faddr 6 (.tmp 3)⟩,
    ⟨some 29, none, .load false 1 (.tmp 28)⟩,
    ⟨some 30, none, .mov (.tmp 7)⟩,
    ⟨some 31, none, .iaddr 7 (.tmp 29) (.tmp 30)⟩,
    ⟨some 32, none, .load true 7 (.tmp 31)⟩,
    ⟨some 33, none, .mov (.tmp 1)⟩,
    ⟨some 34, none, .bin .add (.tmp 33) (.const (.int .i64 1))⟩,
    ⟨some 35, none, .mov (.tmp 2)⟩,
    ⟨some 36, none, .callf id_ref04_walk [.tmp 32, .tmp 34, .tmp 35]⟩,
    ⟨some 2, none, .mov (.tmp 36)⟩] none) <|
  .seq (.region [⟨some 37, none, .mov (.tmp 2)⟩,
    ⟨some 38, none, .bin .lss (.tmp 37) (.const (.int .i64 0))⟩] none) <|
  .cond (.tmp 38)
   (.seq (.region [⟨some 6, none, .mov (.const (.int .i64 (-1)))⟩] none) <|
   .ret)
   (.skip)) <|
  .region [⟨some 26, none, .mov (.tmp 7)⟩,
    ⟨some 27, none, .bin .add (.tmp 26) (.const (.int .i64 1))⟩,
    ⟨some 7, none, .mov (.tmp 27)⟩] none) <|
  .seq (.region [⟨some 39, none, .mov (.tmp 2)⟩,
    ⟨some 6, none, .mov (.tmp 39)⟩] none) <|
  .ret⟩
def fn_ref04_Valid : AFn := ⟨6, [.tmp 2], false,
  .seq (.region [⟨some 1, none, .box 27 7 (.tmp 0)⟩,
    ⟨some 2, none, .mov (.const (.bool false))⟩] none) <|
  .seq (.region [⟨some 3, none, .load true 7 (.tmp 1)⟩,
    ⟨some 4, none, .callf id_ref04_walk [.tmp 3, .const (.int .i64 1), .const (.int .i64 300)]⟩,
    ⟨some 5, none, .bin .geq (.tmp 4) (.const (.int .i64 0))⟩,
    ⟨some 2, none, .mov (.tmp 5)⟩] none) <|
  .ret⟩
def fn_ref04_Has : AFn := ⟨27, [.tmp 4], false,
  .seq (.region [⟨some 2, none, .box 27 7 (.tmp 0)⟩,
    ⟨some 4, none, .mov (.const (.bool false))⟩] none) <|
  .seq (.seq (.region [⟨some 6, none, .faddr 0 (.tmp 2)⟩,
    ⟨some 7, none, .load false 1 (.tmp 6)⟩,
    ⟨some 8, none, .bin .eql (.tmp 7) (.const (.int .i64 2))⟩] none) <|
  .cond (.tmp 8)
   (.seq (.region [⟨some 9, none, .faddr 5 (.tmp 2)⟩,
     ⟨some 10, none, .load false 1 (.tmp 9)⟩,
     ⟨some 11, none, .mov (.tmp 1)⟩,
     ⟨some 12, none, .bin .eql (.tmp 10) (.tmp 11)⟩,
     ⟨some 4, none, .mov (.tmp 12)⟩] none) <|
   .ret)
   (.skip)) <|
  .seq (.seq (.region [⟨some 5, none, .mov (.const (.int .i64 0))⟩] none) <|
  .block 0 <|
  .loop <|
  .seq (.seq (.region [⟨some 13, none, .mov (.tmp 5)⟩,
    ⟨some 14, none, .faddr 6 (.tmp 2)⟩,
    ⟨some 15, none, .load false 1 (.tmp 14)⟩,
    ⟨some 16, none, .len 1 (.tmp 15)⟩,
    ⟨some 17, none, .bin .lss (.tmp 13) (.tmp 16)⟩] none) <|
  .cond (.tmp 17)
   (.skip)
   (.exit 0)) <|
  .seq (.block 1 <|
  .seq (.region [⟨some 20, none, .faddr 6 (.tmp 2)⟩,
    ⟨some 21, none, .load false 1 (.tmp 20)⟩,
    ⟨some 22, none, .mov (.tmp 5)⟩,
    ⟨some 23, none, .iaddr 7 (.tmp 21) (.tmp 22)⟩,
    ⟨some 24, none, .load true 7 (.tmp 23)⟩,
    ⟨some 25, none, .mov (.tmp 1)⟩,
    ⟨some 26, none, .callf id_ref04_Has [.tmp 24, .tmp 25]⟩] none) <|
  .cond (.tmp 26)
   (.seq (.region [⟨some 4, none, .mov (.const (.bool true))⟩] none) <|
   .ret)
   (.skip)) <|
  .region [⟨some 18, none, .mov (.tmp 5)⟩,
    ⟨some 19, none, .bin .add (.tmp 18) (.const (.int .i64 1))⟩,
    ⟨some 5, none, .mov (.tmp 19)⟩] none) <|
  .seq (.region [⟨some 4, none, .mov (.const (.bool false))⟩] none) <|
  .ret⟩
def fn_ref04_Names : AFn := ⟨28, [.tmp 4], false,
  .seq (.region [⟨some 2, none, .box 27 7 (.tmp 0)⟩,
    ⟨some 4, none, .mov (.const (.nils))⟩] none) <|
  .seq (.seq (.region [⟨some 6, none, .faddr 0 (.tmp 2)⟩,
    ⟨some 7, none, .load false 1 (.tmp 6)⟩,
    ⟨some 8, none, .bin .eql (.tmp 7) (.const (.int .i64 2))⟩] none) <|
  .cond (.tmp 8)
   (.seq (.region [⟨some 9, none, .mov (.tmp 1)⟩,
     ⟨some 10, none, .faddr 5 (.tmp 2)⟩,
     ⟨some 11, none, .load false 1 (.tmp 10)⟩,
     ⟨some 12, none, .callf id_ref04_put [.tmp 9, .tmp 11]⟩,
     ⟨some 4, none, .mov (.tmp 12)⟩] none) <|
   .ret)
   (.skip)) <|
  .seq (.seq (.region [⟨some 5, none, .mov (.const (.int .i64 0))⟩] none) <|
  .block 0 <|
  .loop <|
  .seq (.seq (.region [⟨some 13, none, .mov (.tmp 5)⟩,
    ⟨some 14, none, .faddr 6 (.tmp 2)⟩,
    ⟨some 15, none, .load false 1 (.tmp 14)⟩,
    ⟨some 16, none, .len 1 (.tmp 15)⟩,
    ⟨some 17, none, .bin .lss (.tmp 13) (.tmp 16)⟩] none) <|
  .cond (.tmp 17)
   (.skip)
   (.exit 0)) <|
  .seq (.block 1 <|
  .region [⟨some 20, none, .faddr 6 (.tmp 2)⟩,
    ⟨some 21, none, .load false 1 (.tmp 20)⟩,
    ⟨some 22, none, .mov (.tmp 5)⟩,
    ⟨some 23, none, .iaddr 7 (.tmp 21) (.tmp 22)⟩,
    ⟨some 24, none, .load true 7 (.tmp 23)⟩,
    ⟨some 25, none, .mov (.tmp 1)⟩,
    ⟨some 26, none, .callf id_ref04_Names [.tmp 24, .tmp 25]⟩,
    ⟨some 1, none, .mov (.tmp 26)⟩] none) <|
  .region [⟨some 18, none, .mov (.tmp 5)⟩,
    ⟨some 19, none, .bin .add (.tmp 18) (.const (.int .i64 1))⟩,
    ⟨some 5, none, .mov (.tmp 19)⟩] none) <|
  .seq (.region [⟨some 27, none, .mov (.tmp 1)⟩,
    ⟨some 4, none, .mov (.tmp 27)⟩] none) <|
  .ret⟩
def fn_ref04_put : AFn := ⟨49, [.tmp 4], false,
  .seq (.region [⟨some 4, none, .mov (.const (.nils))⟩] none) <|
  .seq (.region [⟨some 5, none, .mov (.const (.int .i64 0))⟩] none) <|
  .seq (.block 0 <|
  .loop <|
  .seq (.seq (.region [⟨some 7, none, .mov (.tmp 5)⟩,
    ⟨some 8, none, .mov (.tmp 0)⟩,
    ⟨some 9, none, .len 1 (.tmp 8)⟩,
    ⟨some 10, none, .bin .lss (.tmp 7) (.tmp 9)⟩,
    ⟨some 11, none, .mov (.tmp 10)⟩,
    ⟨some 12, some (11, true), .mov (.tmp 0)⟩,
    ⟨some 13, some (11, true), .mov (.tmp 5)⟩,
    ⟨some 14, some (11, true), .iaddr 1 (.tmp 12) (.tmp 13)⟩,
    ⟨some 15, some (11, true), .load false 1 (.tmp 14)⟩,
    ⟨some 16, some (11, true), .mov (.tmp 1)⟩,
    ⟨some 17, some (11, true), .bin .lss (.tmp 15) (.tmp 16)⟩,
    ⟨some 18, none, .pick (.tmp 11) (.tmp 17) (.const (.bool false))⟩] none) <|
  .cond (.tmp 18)
   (.skip)
   (.exit 0)) <|
  .block 1 <|
  .region [⟨some 19, none, .mov (.tmp 5)⟩,
    ⟨some 20, none, .bin .add (.tmp 19) (.const (.int .i64 1))⟩,
    ⟨some 5, none, .mov (.tmp 20)⟩] none) <|
  .seq (.seq (.region [⟨some 21, none, .mov (.tmp 5)⟩,
    ⟨some 22, none, .mov (.tmp 0)⟩,
    ⟨some 23, none, .len 1 (.tmp 22)⟩,
    ⟨some 24, none, .bin .lss (.tmp 21) (.tmp 23)⟩,
    ⟨some 25, none, .mov (.tmp 24)⟩,
    ⟨some 26, some (25, true), .mov (.tmp 0)⟩,
    ⟨some 27, some (25, true), .mov (.tmp 5)⟩,
    ⟨some 28, some (25, true), .iaddr 1 (.tmp 26) (.tmp 27)⟩,
    ⟨some 29, some (25, true), .load false 1 (.tmp 28)⟩,
    ⟨some 30, some (25, true), .mov (.tmp 1)⟩,
    ⟨some 31, some (25, true), .bin .eql (.tmp 29) (.tmp 30)⟩,
    ⟨some 32, none, .pick (.tmp 25) (.tmp 31) (.const (.bool false))⟩] none) <|
  .cond (.tmp 32)
   (.seq (.region [⟨some 33, none, .mov (.tmp 0)⟩,
     ⟨some 4, none, .mov (.tmp 33)⟩] none) <|
   .ret)
   (.skip)) <|
  .seq (.region [⟨some 6, none, .mov (.const (.nils))⟩] none) <|
  .seq (.region [⟨some 34, none, .mov (.tmp 6)⟩,
    ⟨some 35, none, .mov (.tmp 0)⟩,
    ⟨some 36, none, .mov (.tmp 5)⟩,
    ⟨some 37, none, .slice false 1 (.tmp 35) none (some (.tmp 36))⟩,
    ⟨some 38, none, .append 9 1 16 (.tmp 34) (.tmp 37)⟩,
    ⟨some 6, none, .mov (.tmp 38)⟩] none) <|
  .seq (.region [⟨some 39, none, .mov (.tmp 6)⟩,
    ⟨some 40, none, .mov (.tmp 1)⟩,
    ⟨some 41, none, .bslice 9 1 1 [.str []] [(0, 1, (.tmp 40))]⟩,
    ⟨some 42, none, .append 9 1 16 (.tmp 39) (.tmp 41)⟩,
    ⟨some 6, none, .mov (.tmp 42)⟩] none) <|
  .seq (.region [⟨some 43, none, .mov (.tmp 6)⟩,
    ⟨some 44, none, .mov (.tmp 0)⟩,
    ⟨some 45, none, .mov (.tmp 5)⟩,
    ⟨some 46, none, .slice false 1 (.tmp 44) (some (.tmp 45)) none⟩,
    ⟨some 47, none, .append 9 1 16 (.tmp 43) (.tmp 46)⟩,
    ⟨some 6, none, .mov (.tmp 47)⟩] none) <|
  .seq (.region [⟨some 48, none, .mov (.tmp 6)⟩,
    ⟨some 4, none, .mov (.tmp 48)⟩] none) <|
  .ret⟩
def fn_ref05_Valid : AFn := ⟨46, [.tmp 2], false,
  .seq (.region [⟨some 2, none, .mov (.const (.bool false))⟩] none) <|
  .seq (.seq (.region [⟨some 5, none, .mov (.tmp 0)⟩,
    ⟨some 6, none, .len 1 (.tmp 5)⟩,
    ⟨some 7, none, .bin .gtr (.tmp 6) (.const (.int .i64 6))⟩] none) <|
  .cond (.tmp 7)
   (.seq (.region [⟨some 2, none, .mov (.const (.bool false))⟩] none) <|
   .ret)
   (.skip)) <|
  .seq (.seq (.region [⟨some 8, none, .mov (.tmp 0)⟩,
    ⟨some 9, none, .len 1 (.tmp 8)⟩,
    ⟨some 10, none, .mov (.const (.int .i64 0))⟩] none) <|
  .block 0 <|
  .loop <|
  .seq (.region [⟨some 11, none, .bin .lss (.tmp 10) (.tmp 9)⟩] none) <|
  .seq (.cond (.tmp 11)
   (.skip)
   (.exit 0)) <|
  .seq (.block 1 <|
  .seq (.region [⟨some 12, none, .mov (.tmp 10)⟩,
    ⟨some 13, none, .iaddr 9 (.tmp 8) (.tmp 10)⟩,
    ⟨some 14, none, .load true 9 (.tmp 13)⟩,
    ⟨some 4, none, .alloc 41 9 [.str [], .bool false, .nils, .nils, .bool false, .nils, .nils, .bool false, .bool false]⟩,
    ⟨some 3, none, .mov (.tmp 12)⟩,
    ⟨none, none, .store 9 (.tmp 4) (.tmp 14)⟩] none) <|
  .seq (.region [⟨some 15, none, .faddr 0 (.tmp 4)⟩,
    ⟨some 16, none, .load false 1 (.tmp 15)⟩,
    ⟨some 17, none, .callf id_ref04_IsName [.tmp 16]⟩,
    ⟨some 18, none, .un .not (.tmp 17)⟩,
    ⟨some 19, none, .mov (.tmp 18)⟩,
    ⟨some 20, some (19, false), .mov (.tmp 3)⟩,
    ⟨some 21, some (19, false), .bin .gtr (.tmp 20) (.const (.int .i64 0))⟩,
    ⟨some 22, some (19, false), .mov (.tmp 21)⟩,
    ⟨some 23, some (22, true), .mov (.tmp 0)⟩,
    ⟨some 24, some (22, true), .mov (.tmp 3)⟩,
    ⟨some 25, some (22, true), .bin .sub (.tmp 24) (.const (.int .i64 1))⟩,
    ⟨some 26, some (22, true), .iaddr 9 (.tmp 23) (.tmp 25)⟩,
    ⟨some 27, some (22, true), .faddr 0 (.tmp 26)⟩,
    ⟨some 28, some (22, true), .load false 1 (.tmp 27)⟩,
    ⟨some 29, some (22, true), .faddr 0 (.tmp 4)⟩,
    ⟨some 30, some (22, true), .load false 1 (.tmp 29)⟩,
    ⟨some 31, some (22, true), .bin .geq (.tmp 28) (.tmp 30)⟩,
    ⟨some 32, some (19, false), .pick (.tmp 22) (.tmp 31) (.const (.bool false))⟩,
    ⟨some 33, none, .pick (.tmp 19) (.const (.bool true)) (.tmp 32)⟩,
    ⟨some 34, none, .mov (.tmp 33)⟩,
    ⟨some 35, some (34, false), .faddr 1 (.tmp 4)⟩,
    ⟨some 36, some (34, false), .load true 8 (.tmp 35)⟩,
    ⟨some 37, some (34, false), .callf id_ref03_Large [.tmp 36]⟩,
    ⟨some 38, none, .pick (.tmp 34) (.const (.bool true)) (.tmp 37)⟩,
    ⟨some 39, none, .mov (.tmp 38)⟩,
    ⟨some 40, some (39, false), .faddr 1 (.tmp 4)⟩,
    ⟨some 41, some (39, false), .load true 8 (.tmp 40)⟩,
    ⟨some 42, some (39, false), .callf id_ref03_Of [.tmp 41]⟩,
    ⟨some 43, some (39, false), .field false 8 1 (.tmp 42)⟩,
    ⟨some 44, none, .pick (.tmp 39) (.const (.bool true)) (.tmp 43)⟩] (some ⟨[(13, 15)], [[], [], [], [], [], [], [], [], [], [], [], [], [], [], [], [], [], [], [], [], [], [], [], [], [], [], [], [], [], []]⟩)) <|
  .cond (.tmp 44)
   (.seq (.region [⟨some 2, none, .mov (.const (.bool false))⟩] none) <|
   .ret)
   (.skip)) <|
  .region [⟨some 45, none, .bin .add (.tmp 10) (.const (.int .i64 1))⟩,
    ⟨some 10, none, .mov (.tmp 45)⟩] none) <|
  .seq (.region [⟨some 2, none, .mov (.const (.bool true))⟩] none) <|
  .ret⟩
def fn_ref06_side : AFn := ⟨20, [.tmp 4], false,
  .seq (.region [⟨some 4, none, .mov (.const (.int .i64 0))⟩] none) <|
  .seq (.seq (.region [⟨some 5, none, .mov (.const (.int .i64 0))⟩] none) <|
  .block 0 <|
  .loop <|
  .seq (.seq (.region [⟨some 6, none, .mov (.tmp 5)⟩,
    ⟨some 7, none, .mov (.tmp 0)⟩,
    ⟨some 8, none, .len 1 (.tmp 7)⟩,
    ⟨some 9, none, .bin .lss (.tmp 6) (.tmp 8)⟩] none) <|
  .cond (.tmp 9)
   (.skip)
   (.exit 0)) <|
  .seq (.block 1 <|
  .seq (.region [⟨some 12, none, .mov (.tmp 0)⟩,
    ⟨some 13, none, .mov (.tmp 5)⟩,
    ⟨some 14, none, .iaddr 9 (.tmp 12) (.tmp 13)⟩,
    ⟨some 15, none, .faddr 0 (.tmp 14)⟩,
    ⟨some 16, none, .load false 1 (.tmp 15)⟩,
    ⟨some 17, none, .mov (.tmp 1)⟩,
    ⟨some 18, none, .bin .eql (.tmp 16) (.tmp 17)⟩] none) <|
  .cond (.tmp 18)
   (.seq (.region [⟨some 19, none, .mov (.tmp 5)⟩,
     ⟨some 4, none, .mov (.tmp 19)⟩] none) <|
   .ret)
   (.skip)) <|
  .region [⟨some 10, none, .mov (.tmp 5)⟩,
    ⟨some 11, none, .bin .add (.tmp 10) (.const (.int .i64 1))⟩,
    ⟨some 5, none, .mov (.tmp 11)⟩] none) <|
  .seq (.region [⟨some 4, none, .mov (.const (.int .i64 (-1)))⟩] none) <|
  .ret⟩
def fn_ref06_named : AFn := ⟨13, [.tmp 4], false,
  .seq (.region [⟨some 2, none, .box 31 10 (.tmp 0)⟩,
    ⟨some 4, none, .mov (.const (.int .i64 0))⟩] none) <|
  .seq (.seq (.region [⟨some 5, none, .load true 10 (.tmp 2)⟩,
    ⟨some 6, none, .callf id_ref06_Valid [.tmp 5]⟩,
    ⟨some 7, none, .un .not (.tmp 6)⟩] none) <|
  .cond (.tmp 7)
   (.seq (.region [⟨some 4, none, .mov (.const (.int .i64 60))⟩] none) <|
   .ret)
   (.skip)) <|
  .seq (.seq (.region [⟨some 8, none, .faddr 8 (.tmp 2)⟩,
    ⟨some 9, none, .load false 1 (.tmp 8)⟩,
    ⟨some 10, none, .mov (.tmp 1)⟩,
    ⟨some 11, none, .callf id_ref06_side [.tmp 9, .tmp 10]⟩,
    ⟨some 12, none, .bin .lss (.tmp 11) (.const (.int .i64 0))⟩] none) <|
  .cond (.tmp 12)
   (.seq (.region [⟨some 4, none, .mov (.const (.int .i64 51))⟩] none) <|
   .ret)
   (.skip)) <|
  .seq (.region [⟨some 4, none, .mov (.const (.int .i64 0))⟩] none) <|
  .ret⟩
def fn_ref06_free : AFn := ⟨21, [.tmp 4], false,
  .seq (.region [⟨some 2, none, .box 31 10 (.tmp 0)⟩,
    ⟨some 4, none, .mov (.const (.bool false))⟩] none) <|
  .seq (.seq (.region [⟨some 5, none, .mov (.const (.int .i64 0))⟩] none) <|
  .block 0 <|
  .loop <|
  .seq (.seq (.region [⟨some 6, none, .mov (.tmp 5)⟩,
    ⟨some 7, none, .faddr 9 (.tmp 2)⟩,
    ⟨some 8, none, .load false 1 (.tmp 7)⟩,
    ⟨some 9, none, .len 1 (.tmp 8)⟩,
    ⟨some 10, none, .bin .lss (.tmp 6) (.tmp 9)⟩] none) <|
  .cond (.tmp 10)
   (.skip)
   (.exit 0)) <|
  .seq (.block 1 <|
  .seq (.region [⟨some 13, none, .faddr 9 (.tmp 2)⟩,
    ⟨some 14, none, .load false 1 (.tmp 13)⟩,
    ⟨some 15, none, .mov (.tmp 5)⟩,
    ⟨some 16, none, .iaddr 8 (.tmp 14) (.tmp 15)⟩,
    ⟨some 17, none, .faddr 0 (.tmp 16)⟩,
    ⟨some 18, none, .load true 7 (.tmp 17)⟩,
    ⟨some 19, none, .mov (.tmp 1)⟩,
    ⟨some 20, none, .callf id_ref04_Has [.tmp 18, .tmp 19]⟩] none) <|
  .cond (.tmp 20)
   (.seq (.region [⟨some 4, none, .mov (.const (.bool false))⟩] none) <|
   .ret)
   (.skip)) <|
  .region [⟨some 11, none, .mov (.tmp 5)⟩,
    ⟨some 12, none, .bin .add (.tmp 11) (.const (.int .i64 1))⟩,
    ⟨some 5, none, .mov (.tmp 12)⟩] none) <|
  .seq (.region [⟨some 4, none, .mov (.const (.bool true))⟩] none) <|
  .ret⟩
def fn_ref06_covered : AFn := ⟨22, [.tmp 4], false,
  .seq (.region [⟨some 2, none, .box 27 7 (.tmp 0)⟩,
    ⟨some 4, none, .mov (.const (.bool false))⟩] none) <|
  .seq (.region [⟨some 7, none, .load true 7 (.tmp 2)⟩,
    ⟨some 8, none, .callf id_ref04_Names [.tmp 7, .const (.nils)]⟩,
    ⟨some 5, none, .mov (.tmp 8)⟩] none) <|
  .seq (.seq (.region [⟨some 6, none, .mov (.const (.int .i64 0))⟩] none) <|
  .block 0 <|
  .loop <|
  .seq (.seq (.region [⟨some 9, none, .mov (.tmp 6)⟩,
    ⟨some 10, none, .mov (.tmp 5)⟩,
    ⟨some 11, none, .len 1 (.tmp 10)⟩,
    ⟨some 12, none, .bin .lss (.tmp 9) (.tmp 11)⟩] none) <|
  .cond (.tmp 12)
   (.skip)
   (.exit 0)) <|
  .seq (.block 1 <|
  .seq (.region [⟨some 15, none, .mov (.tmp 1)⟩,
    ⟨some 16, none, .mov (.tmp 5)⟩,
    ⟨some 17, none, .mov (.tmp 6)⟩,
    ⟨some 18, none, .iaddr 1 (.tmp 16) (.tmp 17)⟩,
    ⟨some 19, none, .load false 1 (.tmp 18)⟩,
    ⟨some 20, none, .callf id_ref06_side [.tmp 15, .tmp 19]⟩,
    ⟨some 21, none, .bin .lss (.tmp 20) (.const (.int .i64 0))⟩] none) <|
  .cond (.tmp 21)
   (.seq (.region [⟨some 4, none, .mov (.const (.bool false))⟩] none) <|
   .ret)
   (.skip)) <|
  .region [⟨some 13, none, .mov (.tmp 6)⟩,
    ⟨some 14, none, .bin .add (.tmp 13) (.const (.int .i64 1))⟩,
    ⟨some 6, none, .mov (.tmp 14)⟩] none) <|
  .seq (.region [⟨some 4, none, .mov (.const (.bool true))⟩] none) <|
  .ret⟩
def fn_ref06_Valid : AFn := ⟨55, [.tmp 2], false,
  .seq (.region [⟨some 1, none, .box 31 10 (.tmp 0)⟩,
    ⟨some 2, none, .mov (.const (.bool false))⟩] none) <|
  .seq (.seq (.region [⟨some 4, none, .faddr 0 (.tmp 1)⟩,
    ⟨some 5, none, .load true 7 (.tmp 4)⟩,
    ⟨some 6, none, .callf id_ref04_Valid [.tmp 5]⟩,
    ⟨some 7, none, .un .not (.tmp 6)⟩,
    ⟨some 8, none, .mov (.tmp 7)⟩,
    ⟨some 9, some (8, false), .faddr 8 (.tmp 1)⟩,
    ⟨some 10, some (8, false), .load false 1 (.tmp 9)⟩,
    ⟨some 11, some (8, false), .callf id_ref05_Valid [.tmp 10]⟩,
    ⟨some 12, some (8, false), .un .not (.tmp 11)⟩,
    ⟨some 13, none, .pick (.tmp 8) (.const (.bool true)) (.tmp 12)⟩,
    ⟨some 14, none, .mov (.tmp 13)⟩,
    ⟨some 15, some (14, false), .faddr 9 (.tmp 1)⟩,
    ⟨some 16, some (14, false), .load false 1 (.tmp 15)⟩,
    ⟨some 17, some (14, false), .len 1 (.tmp 16)⟩,
    ⟨some 18, some (14, false), .bin .gtr (.tmp 17) (.const (.int .i64 12))⟩,
    ⟨some 19, none, .pick (.tmp 14) (.const (.bool true)) (.tmp 18)⟩,
    ⟨some 20, none, .mov (.tmp 19)⟩,
    ⟨some 21, some (20, false), .faddr 0 (.tmp 1)⟩,
    ⟨some 22, some (20, false), .load true 7 (.tmp 21)⟩,
    ⟨some 23, some (20, false), .faddr 8 (.tmp 1)⟩,
    ⟨some 24, some (20, false), .load false 1 (.tmp 23)⟩,
    ⟨some 25, some (20, false), .callf id_ref06_covered [.tmp 22, .tmp 24]⟩,
    ⟨some 26, some (20, false), .un .not (.tmp 25)⟩,
    ⟨some 27, none, .pick (.tmp 20) (.const (.bool true)) (.tmp 26)⟩] none) <|
  .cond (.tmp 27)
   (.seq (.region [⟨some 2, none, .mov (.const (.bool false))⟩] none) <|
   .ret)
   (.skip)) <|
  .seq (.seq (.region [⟨some 3, none, .mov (.const (.int .i64 0))⟩] none) <|
  .block 0 <|
  .loop <|
  .seq (.seq (.region [⟨some 28, none, .mov (.tmp 3)⟩,
    ⟨some 29, none, .faddr 9 (.tmp 1)⟩,
    ⟨some 30, none, .load false 1 (.tmp 29)⟩,
    ⟨some 31, none, .len 1 (.tmp 30)⟩,
    ⟨some 32, none, .bin .lss (.tmp 28) (.tmp 31)⟩] none) <|
  .cond (.tmp 32)
   (.skip)
   (.exit 0)) <|
  .seq (.block 1 <|
  .seq (.region [⟨some 35, none, .faddr 9 (.tmp 1)⟩,
    ⟨some 36, none, .load false 1 (.tmp 35)⟩,
    ⟨some 37, none, .mov (.tmp 3)⟩,
    ⟨some 38, none, .iaddr 8 (.tmp 36) (.tmp 37)⟩,
    ⟨some 39, none, .faddr 0 (.tmp 38)⟩,
    ⟨some 40, none, .load true 7 (.tmp 39)⟩,
    ⟨some 41, none, .callf id_ref04_Valid [.tmp 40]⟩,
    ⟨some 42, none, .un .not (.tmp 41)⟩,
    ⟨some 43, none, .mov (.tmp 42)⟩,
    ⟨some 44, some (43, false), .faddr 9 (.tmp 1)⟩,
    ⟨some 45, some (43, false), .load false 1 (.tmp 44)⟩,
    ⟨some 46, some (43, false), .mov (.tmp 3)⟩,
    ⟨some 47, some (43, false), .iaddr 8 (.tmp 45) (.tmp 46)⟩,
    ⟨some 48, some (43, false), .faddr 0 (.tmp 47)⟩,
    ⟨some 49, some (43, false), .load true 7 (.tmp 48)⟩,
    ⟨some 50, some (43, false), .faddr 8 (.tmp 1)⟩,
    ⟨some 51, some (43, false), .load false 1 (.tmp 50)⟩,
    ⟨some 52, some (43, false), .callf id_ref06_covered [.tmp 49, .tmp 51]⟩,
    ⟨some 53, some (43, false), .un .not (.tmp 52)⟩,
    ⟨some 54, none, .pick (.tmp 43) (.const (.bool true)) (.tmp 53)⟩] (some ⟨[(10, 16), (14, 16)], [[], [], [], [], [], [], [], [], [], [], [], [], [], [], [], [], [], [], [], []]⟩)) <|
  .cond (.tmp 54)
   (.seq (.region [⟨some 2, none, .mov (.const (.bool false))⟩] none) <|
   .ret)
   (.skip)) <|
  .region [⟨some 33, none, .mov (.tmp 3)⟩,
    ⟨some 34, none, .bin .add (.tmp 33) (.const (.int .i64 1))⟩,
    ⟨some 3, none, .mov (.tmp 34)⟩] none) <|
  .seq (.region [⟨some 2, none, .mov (.const (.bool true))⟩] none) <|
  .ret⟩
def fn_ref06_Free : AFn := ⟨18, [.tmp 4, .tmp 5], false,
  .seq (.region [⟨some 2, none, .box 31 10 (.tmp 0)⟩,
    ⟨some 4, none, .mov (.const (.bool false))⟩,
    ⟨some 5, none, .mov (.const (.int .i64 0))⟩] none) <|
  .seq (.region [⟨some 7, none, .load true 10 (.tmp 2)⟩,
    ⟨some 8, none, .mov (.tmp 1)⟩,
    ⟨some 9, none, .callf id_ref06_named [.tmp 7, .tmp 8]⟩,
    ⟨some 6, none, .mov (.tmp 9)⟩] none) <|
  .seq (.region [⟨some 10, none, .mov (.tmp 6)⟩,
    ⟨some 11, none, .bin .eql (.tmp 10) (.const (.int .i64 0))⟩,
    ⟨some 12, none, .mov (.tmp 11)⟩,
    ⟨some 13, some (12, true), .load true 10 (.tmp 2)⟩,
    ⟨some 14, some (12, true), .mov (.tmp 1)⟩,
    ⟨some 15, some (12, true), .callf id_ref06_free [.tmp 13, .tmp 14]⟩,
    ⟨some 16, none, .pick (.tmp 12) (.tmp 15) (.const (.bool false))⟩,
    ⟨some 17, none, .mov (.tmp 6)⟩,
    ⟨some 4, none, .mov (.tmp 16)⟩,
    ⟨some 5, none, .mov (.tmp 17)⟩] none) <|
  .ret⟩
end Go.Am
end
