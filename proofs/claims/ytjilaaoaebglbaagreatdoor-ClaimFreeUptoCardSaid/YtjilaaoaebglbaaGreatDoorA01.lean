/- Parts of the proof. -/
import Derived.Test.YtjilaaoaebglbaaGreatDoorA00
set_option linter.unusedVariables false
set_option linter.unusedSimpArgs false
set_option linter.unnecessarySimpa false
set_option linter.unusedSectionVars false
section
namespace Go.Am
open Go
def ofV0 : Value → Option AV
  | .bool b => some (.bool b)
  | .int k n => some (.int k n)
  | .string s => some (.str s.data.toList)
  | .pointer none => some .nilp
  | .slice none 0 0 => some .nils
  | .map none => some .nilm
  | .nilFunc => some .nilf
  | .nilIface => some .nili
  | _ => none
def ofV : Value → Option AV
  | .agg cs => (cs.toList.mapM ofV0).map .agg
  | .tuple cs => (cs.toList.mapM ofV0).map .tuple
  | v => ofV0 v
def compO (gl : Nat → Bool) : Operand → Option Opnd
  | .tmp t => some (.tmp t)
  | .const v => (ofV v).map .const
  | .global g => if gl g then some (.glob g) else none
  | .func f => some (.const (.func f [] []))
def isAggD : TypeDesc → Bool
  | .struct _ | .array _ _ => true
  | _ => false
def isNilK : Nat → Operand → Bool
  | 0, .const (.pointer none) => true
  | 1, .const (.slice none 0 0) => true
  | 2, .const (.map none) => true
  | 3, .const .nilFunc => true
  | 4, .const .nilIface => true
  | _, _ => false
def kindOf : TypeDesc → Option Nat
  | .pointer _ => some 0
  | .slice _ => some 1
  | .map _ _ => some 2
  | .func _ _ _ => some 3
  | .interface _ => some 4
  | _ => none
def zeroA (i : TypeInfo) : Option AV := i.zero.bind ofV
def zeroC (i : TypeInfo) : Option (List AV) := match zeroA i with
  | some z => if z.cells.length = i.size ∧ flatL z.cells then some z.cells else none
  | none => none
def keyKind : Option TypeDesc → Option Nat
  | some (.int _) => some 0
  | some .string => some 1
  | _ => none
def simpleD : Option TypeDesc → Bool
  | some (.int _) | some .string | some .bool => true
  | _ => false
def fieldsSimple (P : Program) : List Field → Nat → Bool
  | [], _ => true
  | f :: r, o => f.offset == o && f.name != "_" && simpleD (P.underlying f.type) && ((P.info? f.type).map (·.size) == some 1) && fieldsSimple P r (o + 1)
def partsC (P : Program) (gl : Nat → Bool) (place : Nat → Option (Nat × TypeId)) : List (Nat × Operand) → Option (List (Nat × Nat × Opnd))
  | [] => some []
  | (k, x) :: r => match place k, compO gl x, partsC P gl place r with
    | some (off, t), some x, some r => match P.info? t with
      | some i => some ((off, i.size, x) :: r)
      | none => none
    | _, _, _ => none
def compBin (P : Program) (gl : Nat → Bool) (op : BinOp) (t : TypeId) (x y : Operand) : Option Insn :=
  match compO gl x, compO gl y with
  | some x', some y' =>
    match P.underlying t with
    | some (.int _) | some .string => some (.bin op x' y')
    | some .bool => if op == .eql || op == .neq then some (.eqbool (op == .neq) x' y') else none
    | some d => match kindOf d with
      | some k =>
        if op == .eql || op == .neq then
          if isNilK k y then some (.eqnil k (op == .neq) x') else if isNilK k x then some (.eqnil k (op == .neq) y') else none
        else none
      | none => none
    | none => none
  | _, _ => none
def compConv (P : Program) (gl : Nat → Bool) (s d : TypeId) (x : Operand) : Option Insn :=
  match compO gl x with
  | some x' => match P.underlying s, P.underlying d with
    | some (.int _), some (.int k) => some (.conv (.toInt k) x')
    | some .string, some .string => some (.conv .same x')
    | some .string, some (.slice e) => match P.underlying e with
      | some (.int .u8) => some (.conv (.toBytes e) x')
      | _ => none
    | some (.slice e), some .string => match P.underlying e with
      | some (.int .u8) => some (.conv .toStr x')
      | _ => none
    | _, _ => none
  | none => none
def compCall (P : Program) (gl : Nat → Bool) (c : Call) : Option Insn :=
  match c.args.toList.mapM (compO gl) with
  | none => none
  | some args =>
  match c.callee with
  | .value (.func f) => some (.callf f args)
  | .value x => (compO gl x).map (.callv · args)
  | .builtin .len => match args, c.argTypes[0]? with
    | [x], some t => match P.underlying t with
      | some .string => some (.len 0 x)
      | some (.slice _) => some (.len 1 x)
      | some (.map _ _) => some (.len 2 x)
      | _ => none
    | _, _ => none
  | .builtin .cap => match args, c.argTypes[0]? with
    | [x], some t => match P.underlying t with
      | some (.slice _) => some (.cap x)
      | _ => none
    | _, _ => none
  | .builtin .append => match args, c.argTypes[0]?, c.argTypes[1]? with
    | [s, x], some t, some u => match P.underlying t, P.underlying u with
      | some (.slice e), some d => match P.info? e with
        | some i => match zeroC i with
          | some z =>
            if 0 < i.size ∧ 0 < i.bytes then
              match d with
              | .int .i64 => some (.appendz e i.size i.bytes z s x)
              | .slice _ | .string => some (.append e i.size i.bytes s x)
              | _ => none
            else none
          | none => none
        | none => none
      | _, _ => none
    | _, _, _ => none
  | .builtin .copy => match args, c.argTypes[0]? with
    | [d, s], some t => match P.underlying t with
      | some (.slice e) => match P.info? e with
        | some i => some (.copy i.size d s)
        | none => none
      | _ => none
    | _, _ => none
  | .builtin .min => some (.minmax false args)
  | .builtin .max => some (.minmax true args)
  | .builtin .recover => if args.isEmpty then some .recover else none
  | _ => none
def compI (P : Program) (gl : Nat → Bool) : Op → Option Insn
  | .move x | .assign x => (compO gl x).map .mov
  | .pick c a b => match compO gl c, compO gl a, compO gl b with
    | some c, some a, some b => some (.pick c a b)
    | _, _, _ => none
  | .alloc t => match P.info? t with
    | some i => (zeroC i).map (.alloc t i.size)
    | none => none
  | .box t x => match P.info? t, compO gl x with
    | some i, some x => some (.box t i.size x)
    | _, _ => none
  | .build t parts => match P.info? t, P.underlying t with
    | some i, some (.struct fs) => match zeroA i, partsC P gl (fun k => (fs[k]?).map fun f => (f.offset, f.type)) parts.toList with
      | some z, some ps => if (fs.toList.all fun f => (P.info? f.type).isSome) then some (.build z.cells ps) else none
      | _, _ => none
    | some i, some (.array n e) => match zeroA i, P.info? e with
      | some z, some j => (partsC P gl (fun k => some (k * j.size, e)) parts.toList).map (.build z.cells)
      | _, _ => none
    | _, _ => none
  | .buildSlice t len parts => match P.underlying t with
    | some (.slice e) => match P.info? e with
      | some i => match zeroC i, partsC P gl (fun k => some (k * i.size, e)) parts.toList with
        | some z, some ps => if 0 < i.size ∧ len * i.size ≤ 16777216 then some (.bslice e i.size len z ps) else none
        | _, _ => none
      | none => none
    | _ => none
  | .load t a => match P.info? t, P.underlying t, compO gl a with
    | some i, some d, some a => if isAggD d ∨ i.size = 1 then some (.load (isAggD d) i.size a) else none
    | _, _, _ => none
  | .store t a x => match P.info? t, compO gl a, compO gl x with
    | some i, some a, some x => some (.store i.size a x)
    | _, _, _ => none
  | .nilCheck x => (compO gl x).map .nilchk
  | .binOp op t x y _ => compBin P gl op t x y
  | .unOp op _ x => (compO gl x).map (.un op)
  | .convert s d x => compConv P gl s d x
  | .makeInterface t x => match P.underlying t, compO gl x with
    | some d, some x => match d with
      | .interface _ => none
      | _ => some (.mkif t x)
    | _, _ => none
  | .makeFunc (.func f) first caps => match first.toList.mapM (compO gl), caps.toList.mapM (compO gl) with
    | some a, some b => some (.mkfn f a b)
    | _, _ => none
  | .makeMap _ none => some .mkmap
  | .makeSlice t l c => match P.underlying t, compO gl l, compO gl c with
    | some (.slice e), some l, some c => match P.info? e with
      | some i => match zeroC i with
        | some z => if 0 < i.size then some (.mkslice e i.size i.bytes z l c) else none
        | none => none
      | none => none
    | _, _, _ => none
  | .slice t x lo hi none => match compO gl x, (match lo with | none => some none | some y => (compO gl y).map some), (match hi with | none => some none | some y => (compO gl y).map some) with
    | some x, some lo, some hi => match P.underlying t with
      | some .string => some (.slice true 1 x lo hi)
      | some (.slice e) => match P.info? e with
        | some i => some (.slice false i.size x lo hi)
        | none => none
      | _ => none
    | _, _, _ => none
  | .fieldAddr s x f => match P.underlying s, compO gl x with
    | some (.struct fs), some x => match fs[f]? with
      | some fd => match P.info? fd.type with
        | some i => if i.size = 0 then none else some (.faddr fd.offset x)
        | none => none
      | none => none
    | _, _ => none
  | .field t x f => match P.underlying t, compO gl x with
    | some (.struct fs), some x => match fs[f]? with
      | some fd => match P.info? fd.type, P.underlying fd.type with
        | some i, some d => if isAggD d ∨ i.size = 1 then some (.field (isAggD d) fd.offset i.size x) else none
        | _, _ => none
      | none => none
    | _, _ => none
  | .indexAddr t x i => match P.underlying t, compO gl x, compO gl i with
    | some (.slice e), some x, some i => match P.info? e with
      | some j => some (.iaddr j.size x i)
      | none => none
    | some (.array n e), some x, some i => match P.info? e with
      | some j => some (.iaddra n j.size x i)
      | none => none
    | _, _, _ => none
  | .index t x i => match P.underlying t, compO gl x, compO gl i with
    | some .string, some x, some i => some (.index x i)
    | some (.array n e), some x, some i => match P.info? e, P.underlying e with
      | some j, some d => if isAggD d ∨ j.size = 1 then some (.indexa (isAggD d) j.size n x i) else none
      | _, _ => none
    | _, _, _ => none
  | .lookup t x k ok => match P.underlying t, compO gl x, compO gl k with
    | some (.map kt e), some x, some k => match P.info? e with
      | some i => match zeroA i with
        | some z => match keyKind (P.underlying kt) with
          | some kk => some (.lookup kk z ok x k)
          | none => none
        | none => none
      | none => none
    | _, _, _ => none
  | .mapUpdate t m k x | .insert t m k x => match P.underlying t, compO gl m, compO gl k, compO gl x with
    | some (.map kt _), some m, some k, some x => match keyKind (P.underlying kt) with
      | some kk => some (.insert kk m k x)
      | none => none
    | _, _, _, _ => none
  | .typeAssert x _ t ok => match P.underlying t, P.info? t, compO gl x with
    | some d, some i, some x => match d, zeroA i with
      | .interface _, _ => none
      | _, some z => some (.tassert t ok z x)
      | _, none => none
    | _, _, _ => none
  | .extract x i => (compO gl x).map (.extract · i)
  | .call c => compCall P gl c
  | .panic x => (compO gl x).map .panic
  | .defer c => match c.callee, c.args.toList.mapM (compO gl) with
    | .value x, some args => (compO gl x).map (.defer · args)
    | _, _ => none
  | _ => none
def compOp (P : Program) (gl : Nat → Bool) (ops : Array Oper) (o : Oper) : Option AOp :=
  match compI P gl o.op with
  | none => none
  | some i => match o.guard with
    | none => some ⟨o.dst, none, i⟩
    | some (j, b) => match (ops[j]?).bind (·.dst) with
      | some t => some ⟨o.dst, some (t, b), i⟩
      | none => none
def predsOf (o : Oper) : List Nat := o.after.toList.filterMap fun e => if Region.binds .any e then some e.on else none
def befGo : List Nat → List Oper → List Nat
  | acc, [] => acc
  | acc, o :: r => befGo (acc ++ [(predsOf o).foldl (fun s j => s ||| (2 ^ j ||| acc.getD j 0)) 0]) r
def unord (bef : List Nat) (i j : Nat) : Bool := !((bef.getD (max i j) 0).testBit (min i j))
def mayPanic : Insn → Bool
  | .callf .. | .callv .. | .panic _ => true
  | _ => false
def noDefer : Insn → Bool
  | .defer .. | .recover => false
  | _ => true
def predsOk : Nat → List Oper → Bool
  | _, [] => true
  | i, o :: r => (predsOf o).all (fun j => decide (j < i)) && predsOk (i + 1) r
def drawOf (ops : Array Oper) (as : List AOp) : Option Draw :=
  let bef := befGo [] ops.toList
  let n := as.length
  let ins (i : Nat) : Insn := (as.getD i default).ins
  if predsOk 0 ops.toList && (as.all fun a => noDefer a.ins) && ((List.range n).all fun j => (List.range j).all fun i => !(unord bef i j) || apartA (as.getD i default) (as.getD j default)) then
    some ⟨(List.range n).flatMap fun j => (List.range j).filterMap fun i => if unord bef i j && (!(quiet (ins i)) && !(quiet (ins j))) then some (i, j) else none,
      (List.range n).map fun i => if mayPanic (ins i) then (List.range n).filter fun j => j != i && unord bef i j else []⟩
  else none
def compCode (P : Program) (gl : Nat → Bool) : Code → Option ACode
  | .skip => some .skip
  | .region _ ops draw => match ops.toList.mapM (compOp P gl ops) with
    | none => none
    | some as => if draw then (drawOf ops as).map fun d => .region as (some d) else some (.region as none)
  | .seq a b => match compCode P gl a, compCode P gl b with
    | some a, some b => some (.seq a b)
    | _, _ => none
  | .cond c a b => match compO gl c, compCode P gl a, compCode P gl b with
    | some c, some a, some b => some (.cond c a b)
    | _, _, _ => none
  | .block id c => (compCode P gl c).map (.block id)
  | .loop c => (compCode P gl c).map .loop
  | .exit id => some (.exit id)
  | .ret => some .ret
  | .refuse _ => some .fail
  | _ => none
def compRes (P : Program) : ResultVar → Option ARes
  | .tmp t => some (.tmp t)
  | .cell a t => match P.info? t, P.underlying t with
    | some i, some d => if isAggD d ∨ i.size = 1 then some (.cell a (isAggD d) i.size) else none
    | _, _ => none
def compFn (P : Program) (gl : Nat → Bool) (hm : FuncId → Bool) (f : FuncId) (fn : Func) : Option AFn :=
  if fn.name == "runtime.NumGoroutine" then none else
  match fn.body with
  | none => none
  | some c => match fn.results.toList.mapM (compRes P), compCode P gl c with
    | some rs, some c => some ⟨fn.ntmps, rs, hm f, c⟩
    | _, _ => none
end Go.Am
end
