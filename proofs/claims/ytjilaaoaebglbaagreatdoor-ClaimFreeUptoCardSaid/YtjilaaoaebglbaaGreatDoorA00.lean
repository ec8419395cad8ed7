/- Parts of the proof. -/
import Derived.Orders
import Derived.Defers
import Derived.Below
import Derived.Deep.MidRow
set_option linter.unusedVariables false
set_option linter.unusedSimpArgs false
set_option linter.unnecessarySimpa false
set_option linter.unusedSectionVars false
section
namespace Go.Am
open Go
inductive AV where
  | bool (b : Bool)
  | int (k : IntKind) (n : Int)
  | str (s : List UInt8)
  | nilp
  | ptr (b off : Nat)
  | sp (cells : List AV)
  | nils
  | sl (b off len : Nat)
  | row (len : Nat) (cells : List AV)
  | nilm
  | map (b : Nat)
  | fmap (ks vs : List AV)
  | nilf
  | func (f : FuncId) (first caps : List AV)
  | nili
  | iface (t : TypeId) (v : AV)
  | agg (cells : List AV)
  | tuple (vs : List AV)
  | dead
  deriving Inhabited
def undefA : AV := .tuple []
def AV.cells : AV → List AV
  | .agg cs => cs
  | v => [v]
def AV.flat : AV → Bool
  | .agg _ | .tuple _ | .dead => false
  | _ => true
def AV.isDead : AV → Bool
  | .dead => true
  | _ => false
def flatL (cs : List AV) : Bool := cs.all AV.flat
inductive Blk where
  | cells (elem : TypeId) (sz : Nat) (cs : List AV)
  | map (ks vs : List AV)
  deriving Inhabited
abbrev Heap := List (Option Blk)
def getB : Heap → Nat → Option Blk
  | [], _ => none
  | x :: _, 0 => x
  | _ :: t, n + 1 => getB t n
def sizeB (H : Heap) (b : Nat) : Option Nat := match getB H b with
  | some (.cells _ sz _) => some sz
  | _ => none
def setB : Heap → Nat → Option Blk → Heap
  | [], 0, x => [x]
  | [], n + 1, x => none :: setB [] n x
  | _ :: t, 0, x => x :: t
  | h :: t, n + 1, x => h :: setB t n x
inductive Opnd where
  | tmp (t : Nat)
  | const (v : AV)
  | glob (g : Nat)
  deriving Inhabited
inductive CK where
  | toInt (k : IntKind)
  | same
  | toBytes (elem : TypeId)
  | toStr
  deriving Inhabited
inductive Insn where
  | mov (x : Opnd)
  | pick (c a b : Opnd)
  | alloc (elem : TypeId) (sz : Nat) (zero : List AV)
  | box (elem : TypeId) (sz : Nat) (x : Opnd)
  | build (zero : List AV) (parts : List (Nat × Nat × Opnd))
  | bslice (elem : TypeId) (sz len : Nat) (zero : List AV) (parts : List (Nat × Nat × Opnd))
  | load (agg : Bool) (n : Nat) (a : Opnd)
  | store (n : Nat) (a x : Opnd)
  | nilchk (x : Opnd)
  | bin (op : BinOp) (x y : Opnd)
  | eqnil (kind : Nat) (neg : Bool) (x : Opnd)
  | eqbool (neg : Bool) (x y : Opnd)
  | eqagg (neg : Bool) (x y : Opnd)
  | un (op : UnOp) (x : Opnd)
  | conv (k : CK) (x : Opnd)
  | mkif (t : TypeId) (x : Opnd)
  | mkfn (f : FuncId) (first caps : List Opnd)
  | mkmap
  | mkslice (elem : TypeId) (sz bytes : Nat) (zero : List AV) (l c : Opnd)
  | slice (str : Bool) (sz : Nat) (x : Opnd) (lo hi : Option Opnd)
  | faddr (off : Nat) (x : Opnd)
  | field (agg : Bool) (off n : Nat) (x : Opnd)
  | iaddr (sz : Nat) (x i : Opnd)
  | iaddra (len sz : Nat) (x i : Opnd)
  | index (x i : Opnd)
  | indexa (agg : Bool) (sz len : Nat) (x i : Opnd)
  | lookup (kind : Nat) (zero : AV) (ok : Bool) (x k : Opnd)
  | insert (kind : Nat) (m k v : Opnd)
  | tassert (t : TypeId) (ok : Bool) (zero : AV) (x : Opnd)
  | extract (x : Opnd) (i : Nat)
  | len (kind : Nat) (x : Opnd)
  | cap (x : Opnd)
  | append (elem : TypeId) (sz bytes : Nat) (s x : Opnd)
  | appendz (elem : TypeId) (sz bytes : Nat) (zero : List AV) (s x : Opnd)
  | copy (sz : Nat) (d s : Opnd)
  | minmax (max : Bool) (xs : List Opnd)
  | panic (x : Opnd)
  | callf (f : FuncId) (args : List Opnd)
  | callv (x : Opnd) (args : List Opnd)
  | defer (x : Opnd) (args : List Opnd)
  | recover
  deriving Inhabited
structure AOp where
  dst : Option Nat
  guard : Option (Nat × Bool)
  ins : Insn
  deriving Inhabited
structure Draw where
  pairs : List (Nat × Nat)
  free : List (List Nat)
  deriving Inhabited
inductive ACode where
  | skip
  | region (ops : List AOp) (draw : Option Draw)
  | seq (a b : ACode)
  | cond (c : Opnd) (a b : ACode)
  | block (id : Nat) (c : ACode)
  | loop (c : ACode)
  | exit (id : Nat)
  | ret
  | fail
  deriving Inhabited
inductive ARes where
  | tmp (t : Nat)
  | cell (a : Nat) (agg : Bool) (n : Nat)
  deriving Inhabited
structure AFn where
  ntmps : Nat
  res : List ARes
  heap : Bool
  body : ACode
  deriving Inhabited
inductive Tree (α : Type) where
  | leaf
  | node (l : Tree α) (v : Option α) (r : Tree α)
def Tree.get {α : Type} : Nat → Tree α → Nat → Option α
  | 0, _, _ => none
  | _ + 1, .leaf, _ => none
  | d + 1, .node l v r, n => if n = 0 then v else if n % 2 = 0 then l.get d (n / 2 - 1) else r.get d (n / 2)
inductive Res where
  | ret (v : AV)
  | panic (v : AV)
structure Back where
  res : Res
  H : Heap
  nx : Nat
  fz : List Nat
  recd : Bool
structure Env where
  code : FuncId → Option AFn
  glob : Nat → Option (List AV)
  prim : FuncId → Option (List AV → Option AV)
  hprim : FuncId → Option (List AV → Heap → Nat → List Nat → Option Back)
def frz (H : Heap) : Nat → AV → Option AV
  | 0, _ => none
  | n + 1, v =>
    match v with
    | .ptr b off => match getB H b with
      | some (.cells _ _ cs) => ((cs.drop off).mapM (frz H n)).map .sp
      | _ => none
    | .sl b off len => match getB H b with
      | some (.cells _ sz cs) => if off + len * sz ≤ cs.length then (((cs.drop off).take (len * sz)).mapM (frz H n)).map (.row len) else none
      | _ => none
    | .map b => match getB H b with
      | some (.map ks vs) => match ks.mapM (frz H n), vs.mapM (frz H n) with
        | some ks', some vs' => some (.fmap ks' vs')
        | _, _ => none
      | _ => none
    | .agg cs => (cs.mapM (frz H n)).map .agg
    | .tuple cs => (cs.mapM (frz H n)).map .tuple
    | .iface t x => (frz H n x).map (.iface t)
    | .func f first caps => match first.mapM (frz H n), caps.mapM (frz H n) with
      | some a, some b => some (.func f a b)
      | _, _ => none
    | .nils => some (.row 0 [])
    | .dead => none
    | v => some v
def tch (H : Heap) : Nat → AV → List Nat
  | 0, _ => []
  | n + 1, v =>
    match v with
    | .ptr b off => b :: match getB H b with
      | some (.cells _ _ cs) => (cs.drop off).flatMap (tch H n)
      | _ => []
    | .sl b off len => b :: match getB H b with
      | some (.cells _ sz cs) => ((cs.drop off).take (len * sz)).flatMap (tch H n)
      | _ => []
    | .map b => b :: match getB H b with
      | some (.map ks vs) => ks.flatMap (tch H n) ++ vs.flatMap (tch H n)
      | _ => []
    | .agg cs | .tuple cs => cs.flatMap (tch H n)
    | .iface _ x => tch H n x
    | .func _ first caps => first.flatMap (tch H n) ++ caps.flatMap (tch H n)
    | _ => []
def depthOf (nx : Nat) : Nat := 2 * nx + 6
def hasRef : AV → Bool
  | .sp _ | .row _ _ | .fmap _ _ | .func _ _ _ | .iface _ _ => true
  | .agg cs => cs.any fun | .bool _ | .int _ _ | .str _ | .nilp | .nilm | .nilf | .nili => false | _ => true
  | .tuple cs => cs.any fun | .bool _ | .int _ _ | .str _ | .nilp | .nilm | .nilf | .nili => false | _ => true
  | _ => false
def restrict (H : Heap) : List Nat → Heap
  | [] => []
  | b :: r => setB (restrict H r) b (getB H b)
def mergeN (T : List Nat) (nx nx' : Nat) : Nat → Nat → Heap → Heap → Heap
  | 0, _, _, _ => []
  | n + 1, i, H, H' => (if T.contains i || (decide (nx ≤ i) && decide (i < nx')) then getB H' 0 else getB H 0) :: mergeN T nx nx' n (i + 1) H.tail H'.tail
def merge (T : List Nat) (nx nx' : Nat) (H H' : Heap) : Heap := mergeN T nx nx' (max H.length H'.length) 0 H H'
def fillA (cells : List AV) : List (Nat × Nat × AV) → Option (List AV)
  | [] => some cells
  | (off, size, v) :: rest =>
    if v.isDead = false ∧ v.cells.length = size ∧ off + size ≤ cells.length then fillA (cells.take off ++ v.cells ++ cells.drop (off + size)) rest else none
def repeatA (zero : List AV) : Nat → List AV
  | 0 => []
  | n + 1 => zero ++ repeatA zero n
def partA (agg : Bool) (cs : List AV) (off n : Nat) : Option AV :=
  if off + n ≤ cs.length then (if agg then some (.agg ((cs.drop off).take n)) else cs[off]?) else none
def cellsAt (H : Heap) : AV → Option (List AV)
  | .ptr b off => match getB H b with
    | some (.cells _ _ cs) => some (cs.drop off)
    | _ => none
  | .sp cs => some cs
  | _ => none
def rowOf (H : Heap) (sz : Nat) : AV → Option (List AV)
  | .nils => some []
  | .row n cs => if cs.length = n * sz then some cs else none
  | .sl b off len => match getB H b with
    | some (.cells _ s cs) => if s = sz ∧ off + len * sz ≤ cs.length then some ((cs.drop off).take (len * sz)) else none
    | _ => none
  | _ => none
def bytesA (s : List UInt8) : List AV := s.map fun b => .int .u8 b.toNat
def srcA (H : Heap) (sz : Nat) : AV → Option (List AV)
  | .str t => if sz = 1 then some (bytesA t) else none
  | v => rowOf H sz v
def lenA : AV → Nat
  | .row n _ => n
  | .sl _ _ n => n
  | _ => 0
def cmpInt (op : BinOp) (x y : Int) : Option AV :=
  match op with
  | .eql => some (.bool (x == y))
  | .neq => some (.bool (x != y))
  | .lss => some (.bool (x < y))
  | .leq => some (.bool (x ≤ y))
  | .gtr => some (.bool (x > y))
  | .geq => some (.bool (x ≥ y))
  | _ => none
def binInt (op : BinOp) (k : IntKind) (x y : Int) : Option AV :=
  match op with
  | .add => some (.int k (k.wrap (x + y)))
  | .sub => some (.int k (k.wrap (x - y)))
  | .mul => some (.int k (k.wrap (x * y)))
  | .quo => if y = 0 then none else some (.int k (k.wrap (x.tdiv y)))
  | .rem => if y = 0 then none else some (.int k (x.tmod y))
  | .and => some (.int k (k.wrap (BitVec.ofInt k.bits x &&& BitVec.ofInt k.bits y).toNat))
  | .or => some (.int k (k.wrap (BitVec.ofInt k.bits x ||| BitVec.ofInt k.bits y).toNat))
  | .xor => some (.int k (k.wrap (BitVec.ofInt k.bits x ^^^ BitVec.ofInt k.bits y).toNat))
  | .andNot => some (.int k (k.wrap (BitVec.ofInt k.bits x &&& ~~~BitVec.ofInt k.bits y).toNat))
  | op => cmpInt op x y
def binStr (op : BinOp) (x y : List UInt8) : Option AV :=
  match op with
  | .add => if x.length + y.length ≤ 9223372036854775807 then some (.str (x ++ y)) else none
  | .eql => some (.bool (x == y))
  | .neq => some (.bool (x != y))
  | .lss => some (.bool (Op.bytesLess x y))
  | .leq => some (.bool (Op.bytesLess x y || x == y))
  | .gtr => some (.bool !(Op.bytesLess x y || x == y))
  | .geq => some (.bool !(Op.bytesLess x y))
  | _ => none
def binA (op : BinOp) (x y : AV) : Option AV :=
  match x, y with
  | .int k a, .int k' b =>
    match op with
    | .shl => if b < 0 then none else some (.int k (k.wrap (a * 2 ^ min b.toNat k.bits)))
    | .shr => if b < 0 then none else some (.int k (a.fdiv (2 ^ min b.toNat k.bits)))
    | op => if k = k' then binInt op k a b else none
  | .str a, .str b => binStr op a b
  | _, _ => none
def eqnilA : Nat → AV → Option Bool
  | 0, .nilp => some true
  | 0, .ptr _ _ => some false
  | 0, .sp _ => some false
  | 1, .nils => some true
  | 1, .sl _ _ _ => some false
  | 1, .row _ (_ :: _) => some false
  | 2, .nilm => some true
  | 2, .map _ => some false
  | 2, .fmap _ _ => some false
  | 3, .nilf => some true
  | 3, .func _ _ _ => some false
  | 4, .nili => some true
  | 4, .iface _ _ => some false
  | _, _ => none
def eqcell : AV → AV → Option Bool
  | .int k a, .int k' b => if k = k' then some (a == b) else none
  | .str a, .str b => some (a == b)
  | .bool a, .bool b => some (a == b)
  | _, _ => none
def eqcells : List AV → List AV → Option Bool
  | [], [] => some true
  | x :: xs, y :: ys => match eqcell x y with
    | some true => eqcells xs ys
    | some false => some false
    | none => none
  | _, _ => none
def unA (op : UnOp) (x : AV) : Option AV :=
  match op, x with
  | .neg, .int k n => some (.int k (k.wrap (0 - n)))
  | .xor, .int k n => binInt .xor k (if k.signed then -1 else k.max) n
  | .not, .bool b => some (.bool !b)
  | _, _ => none
def eqkey : Nat → AV → AV → Option Bool
  | 0, .int k a, .int k' b => if k = k' then some (a == b) else none
  | 1, .str a, .str b => some (a == b)
  | _, _, _ => none
def iskey : Nat → AV → Bool
  | 0, .int _ _ => true
  | 1, .str _ => true
  | _, _ => false
def findA (kind : Nat) (k : AV) : List AV → List AV → Option (Option (Nat × AV))
  | [], _ => some none
  | x :: xs, v :: vs => match eqkey kind k x with
    | some true => some (some (0, v))
    | some false => match findA kind k xs vs with
      | some (some (i, v)) => some (some (i + 1, v))
      | r => r
    | none => none
  | _ :: _, [] => none
def idx (x : AV) : Option Int := match x with | .int _ n => some n | _ => none
def minmaxA (mx : Bool) : AV → AV → Option AV
  | .int k x, .int _ y => some (.int k (if mx then (if y > x then y else x) else (if y < x then y else x)))
  | _, _ => none
def foldMM (mx : Bool) : AV → List AV → Option AV
  | x, [] => some x
  | x, y :: r => match minmaxA mx x y with
    | some z => foldMM mx z r
    | none => none
def strOfA : List AV → Option (List UInt8)
  | [] => some []
  | .int .u8 n :: r => (strOfA r).map fun s => UInt8.ofNat n.toNat :: s
  | _ => none
def room : Nat := 140737488355328
abbrev Out := Option (AV × Heap × Nat)
def Out.pure (H : Heap) (nx : Nat) (v : Option AV) : Out := v.map fun v => (v, H, nx)
def appendA (fz : List Nat) (nx : Nat) (H : Heap) (elem : TypeId) (sz bytes : Nat) (s : AV) (new : List AV) (n : Nat) : Out :=
  match s with
  | .nils =>
    if n = 0 then some (.nils, H, nx)
    else if n * bytes ≤ room then some (.sl nx 0 n, setB H nx (some (.cells elem sz new)), nx + 1) else none
  | .sl b 0 len => match getB H b with
    | some (.cells e s' cs) =>
      if e = elem ∧ s' = sz ∧ len * sz ≤ cs.length ∧ (len + n) * bytes ≤ room ∧ fz.contains b = false then
        some (.sl nx 0 (len + n), setB (setB H b none) nx (some (.cells elem sz (cs.take (len * sz) ++ new))), nx + 1)
      else none
    | _ => none
  | _ => none
def evalI (ρ : Opnd → AV) (fz : List Nat) (nx : Nat) (H : Heap) : Insn → Out
  | .mov x => some (ρ x, H, nx)
  | .pick c a b => match ρ c with
    | .bool t => some (if t then ρ a else ρ b, H, nx)
    | _ => none
  | .alloc elem sz zero => some (.ptr nx 0, setB H nx (some (.cells elem sz zero)), nx + 1)
  | .box elem sz x => if flatL (ρ x).cells then some (.ptr nx 0, setB H nx (some (.cells elem sz (ρ x).cells)), nx + 1) else none
  | .build zero parts => .pure H nx ((fillA zero (parts.map fun (o, s, x) => (o, s, ρ x))).map .agg)
  | .bslice elem sz len zero parts =>
    match fillA (repeatA zero len) (parts.map fun (o, s, x) => (o, s, ρ x)) with
    | some cs => if flatL cs then some (.sl nx 0 len, setB H nx (some (.cells elem sz cs)), nx + 1) else none
    | none => none
  | .load agg n a => match cellsAt H (ρ a) with
    | some cs => .pure H nx (partA agg cs 0 n)
    | none => none
  | .store n a x => match ρ a with
    | .ptr b off => match getB H b with
      | some (.cells e s cs) =>
        if (ρ x).cells.length = n ∧ off + n ≤ cs.length ∧ fz.contains b = false ∧ flatL (ρ x).cells then some (undefA, setB H b (some (.cells e s (cs.take off ++ (ρ x).cells ++ cs.drop (off + n)))), nx) else none
      | _ => none
    | _ => none
  | .nilchk x => match ρ x with
    | .ptr b o => some (.ptr b o, H, nx)
    | .sp cs => some (.sp cs, H, nx)
    | .func f a b => some (.func f a b, H, nx)
    | _ => none
  | .bin op x y => .pure H nx (binA op (ρ x) (ρ y))
  | .eqnil kind neg x => .pure H nx ((eqnilA kind (ρ x)).map fun b => .bool (if neg then !b else b))
  | .eqbool neg x y => match ρ x, ρ y with
    | .bool a, .bool b => some (.bool (if neg then !(a == b) else a == b), H, nx)
    | _, _ => none
  | .eqagg neg x y => match ρ x, ρ y with
    | .agg xs, .agg ys => .pure H nx ((eqcells xs ys).map fun b => .bool (if neg then !b else b))
    | _, _ => none
  | .un op x => .pure H nx (unA op (ρ x))
  | .conv k x => match k, ρ x with
    | .toInt k, .int _ n => some (.int k (k.wrap n), H, nx)
    | .same, .str s => some (.str s, H, nx)
    | .toBytes _, .str s => some (.row s.length (bytesA s), H, nx)
    | .toStr, v => match rowOf H 1 v with
      | some cs => .pure H nx ((strOfA cs).map .str)
      | none => none
    | _, _ => none
  | .mkif t x => some (.iface t (ρ x), H, nx)
  | .mkfn f first caps => some (.func f (first.map ρ) (caps.map ρ), H, nx)
  | .mkmap => some (.map nx, setB H nx (some (.map [] [])), nx + 1)
  | .mkslice elem sz bytes zero l c => match ρ l, ρ c with
    | .int _ l, .int _ c =>
      if 0 ≤ l ∧ l ≤ c ∧ c * bytes ≤ room ∧ c ≤ 9223372036854775807 then some (.sl nx 0 l.toNat, setB H nx (some (.cells elem sz (repeatA zero c.toNat))), nx + 1) else none
    | _, _ => none
  | .slice str sz x lo hi =>
    let bound (o : Option Opnd) (d : Int) : Option Int := match o with | some y => idx (ρ y) | none => some d
    match str, ρ x with
    | true, .str s => match bound lo 0, bound hi s.length with
      | some l, some h => if 0 ≤ l ∧ l ≤ h ∧ h ≤ s.length then some (.str ((s.drop l.toNat).take (h.toNat - l.toNat)), H, nx) else none
      | _, _ => none
    | false, .nils => match bound lo 0, bound hi 0 with
      | some l, some h => if l = 0 ∧ h = 0 then some (.nils, H, nx) else none
      | _, _ => none
    | false, .row n cs => match bound lo 0, bound hi n with
      | some l, some h => if 0 ≤ l ∧ l ≤ h ∧ h ≤ n then some (.row (h.toNat - l.toNat) ((cs.drop (l.toNat * sz)).take ((h.toNat - l.toNat) * sz)), H, nx) else none
      | _, _ => none
    | false, .sl b off n => match bound lo 0, bound hi n with
      | some l, some h => if 0 ≤ l ∧ l ≤ h ∧ h ≤ n ∧ sizeB H b = some sz then some (if h = l ∧ l ≠ 0 then .row 0 [] else .sl b (off + l.toNat * sz) (h.toNat - l.toNat), H, nx) else none
      | _, _ => none
    | _, _ => none
  | .faddr off x => match ρ x with
    | .ptr b o => some (.ptr b (o + off), H, nx)
    | .sp cs => if off ≤ cs.length then some (.sp (cs.drop off), H, nx) else none
    | _ => none
  | .field agg off n x => match ρ x with
    | .agg cs => .pure H nx (partA agg cs off n)
    | _ => none
  | .iaddr sz x i => match ρ x, idx (ρ i) with
    | .row n cs, some i => if 0 ≤ i ∧ i < n then some (.sp (cs.drop (i.toNat * sz)), H, nx) else none
    | .sl b off n, some i => if 0 ≤ i ∧ i < n then some (.ptr b (off + i.toNat * sz), H, nx) else none
    | _, _ => none
  | .iaddra len sz x i => match ρ x, idx (ρ i) with
    | .ptr b o, some i => if 0 ≤ i ∧ i < len then some (.ptr b (o + i.toNat * sz), H, nx) else none
    | .sp cs, some i => if 0 ≤ i ∧ i < len then some (.sp (cs.drop (i.toNat * sz)), H, nx) else none
    | _, _ => none
  | .index x i => match ρ x, idx (ρ i) with
    | .str s, some i => if 0 ≤ i then (match s[i.toNat]? with | some b => some (.int .u8 b.toNat, H, nx) | none => none) else none
    | _, _ => none
  | .indexa agg sz len x i => match ρ x, idx (ρ i) with
    | .agg cs, some i => if 0 ≤ i ∧ i < len then .pure H nx (partA agg cs (i.toNat * sz) sz) else none
    | _, _ => none
  | .lookup kind zero ok x k =>
    let es : Option (List AV × List AV) := match ρ x with
      | .nilm => some ([], [])
      | .fmap ks vs => some (ks, vs)
      | .map b => match getB H b with
        | some (.map ks vs) => some (ks, vs)
        | _ => none
      | _ => none
    match es with
    | some (ks, vs) => match (if iskey kind (ρ k) then findA kind (ρ k) ks vs else none) with
      | some r =>
        let v := match r with | some (_, v) => v | none => zero
        some (if ok then .tuple [v, .bool r.isSome] else v, H, nx)
      | none => none
    | none => none
  | .insert kind m k v => match ρ m with
    | .map b => match getB H b with
      | some (.map ks vs) => match (if fz.contains b = false ∧ iskey kind (ρ k) = true then findA kind (ρ k) ks vs else none) with
        | some (some (i, _)) => some (undefA, setB H b (some (.map ks (vs.set i (ρ v)))), nx)
        | some none => some (undefA, setB H b (some (.map (ks ++ [ρ k]) (vs ++ [ρ v]))), nx)
        | none => none
      | _ => none
    | _ => none
  | .tassert t ok zero x => match ρ x with
    | .iface u v => if u = t then some (if ok then .tuple [v, .bool true] else v, H, nx) else if ok then some (.tuple [zero, .bool false], H, nx) else none
    | .nili => if ok then some (.tuple [zero, .bool false], H, nx) else none
    | _ => none
  | .extract x i => match ρ x with
    | .tuple vs => .pure H nx vs[i]?
    | _ => none
  | .len kind x => match kind, ρ x with
    | 0, .str s => some (.int .i64 s.length, H, nx)
    | 1, .nils => some (.int .i64 0, H, nx)
    | 1, .row n _ => some (.int .i64 n, H, nx)
    | 1, .sl _ _ n => some (.int .i64 n, H, nx)
    | 2, .nilm => some (.int .i64 0, H, nx)
    | 2, .fmap ks _ => some (.int .i64 ks.length, H, nx)
    | 2, .map b => match getB H b with
      | some (.map ks _) => some (.int .i64 ks.length, H, nx)
      | _ => none
    | _, _ => none
  | .cap x => match ρ x with
    | .nils => some (.int .i64 0, H, nx)
    | _ => none
  | .append elem sz bytes s x => match ρ x with
    | .str t => if sz = 1 then appendA fz nx H elem sz bytes (ρ s) (bytesA t) t.length else none
    | v => match rowOf H sz v with
      | some cs => appendA fz nx H elem sz bytes (ρ s) cs (lenA v)
      | none => none
  | .appendz elem sz bytes zero s x => match ρ x with
    | .int .i64 n => if 0 ≤ n ∧ n * bytes ≤ room ∧ n ≤ 9223372036854775807 then appendA fz nx H elem sz bytes (ρ s) (repeatA zero n.toNat) n.toNat else none
    | _ => none
  | .copy sz d s => match ρ d with
    | .sl b off len => match getB H b, srcA H sz (ρ s) with
      | some (.cells e s' cs), some src =>
        if s' = sz ∧ 0 < sz ∧ off + len * sz ≤ cs.length ∧ fz.contains b = false then
          let m := min (src.length / sz) len
          some (.int .i64 m, setB H b (some (.cells e s' (cs.take off ++ src.take (m * sz) ++ cs.drop (off + m * sz)))), nx)
        else none
      | _, _ => none
    | _ => none
  | .minmax mx xs => match xs.map ρ with
    | x :: r => .pure H nx (foldMM mx x r)
    | [] => none
  | _ => none
structure St where
  tmps : List AV
  H : Heap
  nx : Nat
  fz : List Nat
  defers : List (FuncId × List AV)
  recd : Bool
def getT (tmps : List AV) (t : Nat) : AV := tmps.getD t undefA
def St.eval (E : Env) (s : St) : Opnd → AV
  | .tmp t => getT s.tmps t
  | .const v => v
  | .glob g => match E.glob g with | some cs => .sp cs | none => undefA
def St.put (s : St) (d : Option Nat) (v : AV) : St := match d with | some d => { s with tmps := s.tmps.set d v } | none => s
inductive Ex where
  | normal
  | exit (id : Nat)
  | ret
  | panic (v : AV)
abbrev CallT := FuncId → List AV → Heap → Nat → List Nat → Option (Option AV) → Option Back
def hback (T : List Nat) (H : Heap) (nx : Nat) (fz : List Nat) : Option Back → Option Back
  | some b => if nx ≤ b.nx then some ⟨b.res, merge T nx b.nx H b.H, b.nx, b.fz.filter (fun x => T.contains x || (decide (nx ≤ x) && decide (x < b.nx))) ++ fz, b.recd⟩ else none
  | none => none
def pback (T : List Nat) (H : Heap) (nx : Nat) (fz : List Nat) (r : AV → Res) (v : AV) : Option Back :=
  some ⟨r v, H, nx, if hasRef v then T.filter (fun b => !fz.contains b) ++ fz else fz, false⟩
def callA (E : Env) (call : CallT) (f : FuncId) (args : List AV) (H : Heap) (nx : Nat) (fz : List Nat) : Option Back :=
  let T := args.flatMap (tch H (depthOf nx))
  match E.hprim f with
  | some g => hback T H nx fz (g args (restrict H T) nx (T.filter fun b => fz.contains b))
  | none =>
  match E.prim f with
  | some g => match args.mapM (frz H (depthOf nx)) with
    | some a => match g a with
      | some v => pback T H nx fz .ret v
      | none => none
    | none => none
  | none =>
  match E.code f with
  | none => none
  | some fn =>
    if fn.heap then hback T H nx fz (call f args (restrict H T) nx (T.filter fun b => fz.contains b) none)
    else
      match args.mapM (frz H (depthOf nx)) with
      | some a => match call f a [] 0 [] none with
        | some b => match b.res with
          | .ret v => match frz b.H (depthOf b.nx) v with
            | some v => pback T H nx fz .ret v
            | none => none
          | .panic v => match frz b.H (depthOf b.nx) v with
            | some v => pback T H nx fz .panic v
            | none => none
        | none => none
      | none => none
def wantedA (s : St) : Option (Nat × Bool) → Option Bool
  | none => some true
  | some (t, b) => match getT s.tmps t with
    | .bool c => some (c == b)
    | .dead => none
    | _ => some false
def evalOp (E : Env) (call : CallT) (pan : Option (Option AV)) (o : AOp) (s : St) : Option (Ex × St) :=
  match wantedA s o.guard with
  | none => none
  | some false => some (.normal, s.put o.dst undefA)
  | some true =>
    match o.ins with
    | .callf f args => match callA E call f (args.map (s.eval E)) s.H s.nx s.fz with
      | some b => match b.res with
        | .ret v => some (.normal, { s with H := b.H, nx := b.nx, fz := b.fz }.put o.dst v)
        | .panic v => some (.panic v, { s with H := b.H, nx := b.nx, fz := b.fz })
      | none => none
    | .callv x args => match s.eval E x with
      | .func f first caps => match callA E call f (first ++ args.map (s.eval E) ++ caps) s.H s.nx s.fz with
        | some b => match b.res with
          | .ret v => some (.normal, { s with H := b.H, nx := b.nx, fz := b.fz }.put o.dst v)
          | .panic v => some (.panic v, { s with H := b.H, nx := b.nx, fz := b.fz })
        | none => none
      | _ => none
    | .panic x => match s.eval E x with
      | .iface t v => some (.panic (.iface t v), s)
      | _ => none
    | .defer x args => match s.eval E x with
      | .func f first caps => some (.normal, { s with defers := (f, first ++ args.map (s.eval E) ++ caps) :: s.defers }.put o.dst undefA)
      | _ => none
    | .recover => match pan, s.recd with
      | some (some v), false => some (.normal, { s with recd := true }.put o.dst v)
      | some _, _ => some (.normal, s.put o.dst .nili)
      | none, _ => none
    | i => match evalI (s.eval E) s.fz s.nx s.H i with
      | some (v, H, nx) => some (.normal, { s with H, nx }.put o.dst v)
      | none => none
def evalOps (E : Env) (call : CallT) (pan : Option (Option AV)) : List AOp → St → Option (Ex × St)
  | [], s => some (.normal, s)
  | o :: r, s => match evalOp E call pan o s with
    | some (.normal, s') => evalOps E call pan r s'
    | x => x
def quiet : Insn → Bool
  | .alloc .. | .box .. | .bslice .. | .mkmap | .mkslice .. | .load .. | .store .. | .lookup .. | .insert .. | .append .. | .appendz .. | .copy .. | .callf .. | .callv .. => false
  | .slice str .. => str
  | .len k _ => k != 2
  | .conv k _ => match k with
    | .toStr => false
    | _ => true
  | _ => true
def opndsI : Insn → List Opnd
  | .mov x | .box _ _ x | .load _ _ x | .nilchk x | .eqnil _ _ x | .un _ x | .conv _ x | .mkif _ x | .faddr _ x | .field _ _ _ x | .tassert _ _ _ x | .extract x _ | .len _ x | .cap x | .panic x => [x]
  | .pick c a b => [c, a, b]
  | .alloc .. | .mkmap | .recover => []
  | .build _ ps | .bslice _ _ _ _ ps => ps.map (·.2.2)
  | .store _ a x | .bin _ a x | .eqbool _ a x | .eqagg _ a x | .mkslice _ _ _ _ a x | .iaddr _ a x | .iaddra _ _ a x | .index a x | .indexa _ _ _ a x | .lookup _ _ _ a x | .append _ _ _ a x | .appendz _ _ _ _ a x | .copy _ a x => [a, x]
  | .mkfn _ a b => a ++ b
  | .slice _ _ x lo hi => x :: (lo.toList ++ hi.toList)
  | .insert _ m k v => [m, k, v]
  | .minmax _ xs => xs
  | .callf _ xs => xs
  | .callv x xs | .defer x xs => x :: xs
def looksA (o : AOp) : List Nat := (opndsI o.ins).filterMap (fun | .tmp t => some t | _ => none) ++ (o.guard.map (·.1)).toList
def apartA (x y : AOp) : Bool :=
  (match x.dst with
   | some d => !(looksA y).contains d && y.dst != some d
   | none => true) &&
  (match y.dst with
   | some d => !(looksA x).contains d
   | none => true)
def topOf : AV → List Nat
  | .ptr b _ | .sl b _ _ | .map b => [b]
  | _ => []
def footOf (E : Env) (s : St) : Insn → List Nat
  | .load _ _ a | .store _ a _ => topOf (s.eval E a)
  | .insert _ m _ _ => topOf (s.eval E m)
  | .lookup _ _ _ x _ | .slice false _ x _ _ | .len 2 x | .conv .toStr x => topOf (s.eval E x)
  | .append _ _ _ d x | .appendz _ _ _ _ d x | .copy _ d x => topOf (s.eval E d) ++ topOf (s.eval E x)
  | .callf _ args => (args.map (s.eval E)).flatMap (tch s.H (depthOf s.nx))
  | .callv x args => match s.eval E x with
    | .func _ first caps => (first ++ args.map (s.eval E) ++ caps).flatMap (tch s.H (depthOf s.nx))
    | _ => []
  | _ => []
def span (a : Nat) : Nat → List Nat
  | 0 => []
  | n + 1 => a :: span (a + 1) n
def byValue (E : Env) (f : FuncId) : Bool :=
  match E.hprim f, E.prim f, E.code f with
  | some _, _, _ => false
  | none, some _, _ => true
  | none, none, some fn => !fn.heap
  | none, none, none => true
def writesOf (E : Env) (i : Insn) (foot : List Nat) (s s' : St) : List Nat :=
  (match i with
   | .store .. | .insert .. | .append .. | .appendz .. | .copy .. => foot
   | .callf f _ => if byValue E f && s.fz.length == s'.fz.length then [] else foot
   | .callv x _ => match s.eval E x with
     | .func f _ _ => if byValue E f && s.fz.length == s'.fz.length then [] else foot
     | _ => []
   | _ => []) ++ span s.nx (s'.nx - s.nx)
structure Rec where
  done : Bool
  foot : List Nat
  wr : List Nat
  deriving Inhabited
def disjointB (x y : List Nat) : Bool := x.all fun b => !y.contains b
def newOk (s s' : St) : Bool := (span s.nx (s'.nx - s.nx)).all fun b => (getB s.H b).isNone && !s.fz.contains b
def recOf (E : Env) (o : AOp) (s s' : St) : Rec := ⟨true, footOf E s o.ins, writesOf E o.ins (footOf E s o.ins) s s'⟩
def evalSteps (E : Env) (call : CallT) (pan : Option (Option AV)) (d : Draw) : Nat → List AOp → St → Option (Nat × AV × St) → List Rec → Option (Option (Nat × AV × St) × St × List Rec)
  | _, [], s, p, acc => some (p, s, acc.reverse)
  | i, o :: r, s, some (k, v, t), acc =>
    if (d.free.getD k []).contains i then
      match evalOp E call pan o s with
      | some (.normal, s') => if newOk s s' then evalSteps E call pan d (i + 1) r s' (some (k, v, t)) (recOf E o s s' :: acc) else none
      | _ => none
    else evalSteps E call pan d (i + 1) r s (some (k, v, t)) (⟨false, [], []⟩ :: acc)
  | i, o :: r, s, none, acc =>
    match evalOp E call pan o s with
    | some (.normal, s') => if newOk s s' then evalSteps E call pan d (i + 1) r s' none (recOf E o s s' :: acc) else none
    | some (.panic v, s') => if newOk s s' then evalSteps E call pan d (i + 1) r s' (some (i, v, s')) (recOf E o s s' :: acc) else none
    | _ => none
def apartR (a b : Rec) : Bool := disjointB a.wr b.foot && disjointB a.wr b.wr && disjointB a.foot b.wr
def killT : List AOp → List AV → List AV
  | [], t => t
  | o :: r, t => killT r (match o.dst with | some d => t.set d .dead | none => t)
def killB : List Nat → Heap → Heap
  | [], H => H
  | b :: r, H => setB (killB r H) b none
def evalDraw (E : Env) (call : CallT) (pan : Option (Option AV)) (d : Draw) (ops : List AOp) (s : St) : Option (Ex × St) :=
  match evalSteps E call pan d 0 ops s none [] with
  | some (p, s', rs) =>
    if d.pairs.all fun (i, j) => apartR (rs.getD i default) (rs.getD j default) then
      match p with
      | none => some (.normal, s')
      | some (k, v, t) =>
        let W := (d.free.getD k []).flatMap fun j => (rs.getD j default).wr
        some (.panic v, { t with tmps := killT ops t.tmps, H := killB W t.H, fz := t.fz.filter (fun b => !W.contains b), nx := s'.nx })
    else none
  | none => none
def evalCode (E : Env) (call : CallT) (pan : Option (Option AV)) : Nat → ACode → St → Option (Ex × St)
  | 0, _, _ => none
  | _ + 1, .skip, s => some (.normal, s)
  | _ + 1, .region ops none, s => evalOps E call pan ops s
  | _ + 1, .region ops (some d), s => evalDraw E call pan d ops s
  | k + 1, .seq a b, s => match evalCode E call pan k a s with
    | some (.normal, s') => evalCode E call pan k b s'
    | x => x
  | k + 1, .cond c a b, s => match s.eval E c with
    | .bool t => evalCode E call pan k (if t then a else b) s
    | _ => none
  | k + 1, .block id c, s => match evalCode E call pan k c s with
    | some (.exit i, s') => if i = id then some (.normal, s') else some (.exit i, s')
    | x => x
  | k + 1, .loop c, s => match evalCode E call pan k c s with
    | some (.normal, s') => evalCode E call pan k (.loop c) s'
    | x => x
  | _ + 1, .exit id, s => some (.exit id, s)
  | _ + 1, .ret, s => some (.ret, s)
  | _ + 1, .fail, _ => none
def resA (tmps : List AV) (H : Heap) : ARes → Option AV
  | .tmp t => some (getT tmps t)
  | .cell a agg n => match cellsAt H (getT tmps a) with
    | some cs => partA agg cs 0 n
    | none => none
def resultsA (rs : List ARes) (tmps : List AV) (H : Heap) : Option AV :=
  match rs with
  | [r] => resA tmps H r
  | rs => (rs.mapM (resA tmps H)).map .tuple
def leaveA (call : CallT) (rs : List ARes) (tmps : List AV) : List (FuncId × List AV) → Option AV → Heap → Nat → List Nat → Option Back
  | [], none, H, nx, fz => (resultsA rs tmps H).map fun v => ⟨.ret v, H, nx, fz, false⟩
  | [], some v, H, nx, fz => some ⟨.panic v, H, nx, fz, false⟩
  | (f, args) :: ds, m, H, nx, fz => match call f args H nx fz (some m) with
    | some ⟨.ret _, H', nx', fz', r⟩ => if nx ≤ nx' then leaveA call rs tmps ds (if r then none else m) H' nx' fz' else none
    | _ => none
def enterA (fn : AFn) (args : List AV) : List AV := args ++ List.replicate (fn.ntmps - args.length) undefA
def evalFn (E : Env) : Nat → CallT
  | 0, _, _, _, _, _, _ => none
  | k + 1, f, args, H, nx, fz, none => match E.code f with
    | none => none
    | some fn => match evalCode E (evalFn E k) none k fn.body ⟨enterA fn args, H, nx, fz, [], false⟩ with
      | some (.normal, s) | some (.ret, s) => leaveA (evalFn E k) fn.res s.tmps s.defers none s.H s.nx s.fz
      | some (.panic v, s) => leaveA (evalFn E k) fn.res s.tmps s.defers (some v) s.H s.nx s.fz
      | _ => none
  | k + 1, f, args, H, nx, fz, some m => match E.code f with
    | none => none
    | some fn => match fn.body with
      | .seq (.region ops none) rest => match evalOps E (evalFn E k) (some m) ops ⟨enterA fn args, H, nx, fz, [], false⟩ with
        | some (.normal, s) => match evalCode E (evalFn E k) none k rest s with
          | some (.normal, s') | some (.ret, s') => if s'.defers.isEmpty then (resultsA fn.res s'.tmps s'.H).map fun v => ⟨.ret v, s'.H, s'.nx, s'.fz, s.recd⟩ else none
          | _ => none
        | _ => none
      | _ => none
end Go.Am
end
section
namespace Go.Am
open Go
mutual
def srep (S : Nat → Prop) (w : World) : AV → Value → Prop
  | .bool b, v => v = .bool b
  | .int k n, v => v = .int k n
  | .str s, v => v = .string ⟨s.toArray⟩
  | .nilp, v => v = .pointer none
  | .ptr _ _, _ => False
  | .sp cs, v => ∃ b o, v = .pointer (some ⟨b, o, none⟩) ∧ S b ∧ srepC S w cs b o
  | .nils, v => v = .slice none 0 0
  | .sl _ _ _, _ => False
  | .row n cs, v => ∃ A c, v = .slice A n c ∧ n ≤ c ∧ ((n = 0 ∧ cs = []) ∨ ∃ b o, A = some ⟨b, o, none⟩ ∧ S b ∧ srepC S w cs b o)
  | .nilm, v => v = .map none
  | .map _, _ => False
  | .fmap ks vs, v => ∃ (r : Nat) (es : Array MapEntry) (clock : Nat), v = .map (some r) ∧ S r ∧ w.heap[r]? = some (.map es clock) ∧ srepL S w ks (es.toList.map (·.key)) ∧ srepL S w vs (es.toList.map (·.val))
  | .nilf, v => v = .nilFunc
  | .func f first caps, v => ∃ a b : List Value, v = .func (.func f) a.toArray b.toArray ∧ srepL S w first a ∧ srepL S w caps b
  | .nili, v => v = .nilIface
  | .iface t x, v => ∃ y, v = .iface t y ∧ srep S w x y
  | .agg cs, v => ∃ l : List Value, v = .agg l.toArray ∧ srepL S w cs l
  | .tuple cs, v => ∃ l : List Value, v = .tuple l.toArray ∧ srepL S w cs l
  | .dead, _ => False
def srepL (S : Nat → Prop) (w : World) : List AV → List Value → Prop
  | [], l => l = []
  | x :: xs, l => ∃ v r, l = v :: r ∧ srep S w x v ∧ srepL S w xs r
def srepC (S : Nat → Prop) (w : World) : List AV → Nat → Nat → Prop
  | [], _, _ => True
  | x :: xs, b, o => (x.flat = true ∧ ∃ v, w.cell? ⟨b, o, none⟩ = some v ∧ srep S w x v) ∧ srepC S w xs b (o + 1)
end
mutual
def rep (P : Program) (β : Nat → Option Nat) (S : Nat → Prop) (w : World) : AV → Value → Prop
  | .ptr b off, v => ∃ c, β b = some c ∧ v = .pointer (some ⟨c, off, none⟩)
  | .sl b off len, v => ∃ c cap e n, β b = some c ∧ v = .slice (some ⟨c, off, none⟩) len cap ∧ len ≤ cap ∧ w.shape? c = some (e, n) ∧ off + cap * P.cellsOf e ≤ n
  | .map b, v => ∃ c, β b = some c ∧ v = .map (some c)
  | .func f first caps, v => ∃ a b : List Value, v = .func (.func f) a.toArray b.toArray ∧ repL P β S w first a ∧ repL P β S w caps b
  | .iface t x, v => ∃ y, v = .iface t y ∧ rep P β S w x y
  | .agg cs, v => ∃ l : List Value, v = .agg l.toArray ∧ repL P β S w cs l
  | .tuple cs, v => ∃ l : List Value, v = .tuple l.toArray ∧ repL P β S w cs l
  | .bool b, v => v = .bool b
  | .int k n, v => v = .int k n
  | .str s, v => v = .string ⟨s.toArray⟩
  | .nilp, v => v = .pointer none
  | .sp cs, v => srep S w (.sp cs) v
  | .nils, v => v = .slice none 0 0
  | .row n cs, v => srep S w (.row n cs) v
  | .nilm, v => v = .map none
  | .fmap ks vs, v => srep S w (.fmap ks vs) v
  | .nilf, v => v = .nilFunc
  | .nili, v => v = .nilIface
  | .dead, _ => True
def repL (P : Program) (β : Nat → Option Nat) (S : Nat → Prop) (w : World) : List AV → List Value → Prop
  | [], l => l = []
  | x :: xs, l => ∃ v r, l = v :: r ∧ rep P β S w x v ∧ repL P β S w xs r
end
structure Ext (β : Nat → Option Nat) (S : Nat → Prop) (w : World) (β' : Nat → Option Nat) (S' : Nat → Prop) (w' : World) : Prop where
  im : ∀ b c, β b = some c → β' b = some c
  st : ∀ b, S b → S' b
  keep : ∀ c, S c → w'.heap[c]? = w.heap[c]?
  shape : ∀ c x, w.shape? c = some x → w'.shape? c = some x
theorem Ext.refl (β : Nat → Option Nat) (S : Nat → Prop) (w : World) : Ext β S w β S w := ⟨fun _ _ h => h, fun _ h => h, fun _ _ => rfl, fun _ _ h => h⟩
theorem Ext.trans {β β' β'' : Nat → Option Nat} {S S' S'' : Nat → Prop} {w w' w'' : World} (h : Ext β S w β' S' w') (k : Ext β' S' w' β'' S'' w'') : Ext β S w β'' S'' w'' :=
  ⟨fun b c hb => k.im b c (h.im b c hb), fun b hb => k.st b (h.st b hb), fun c hc => (k.keep c (h.st c hc)).trans (h.keep c hc), fun c x hx => k.shape c x (h.shape c x hx)⟩
section
variable {P : Program} {β β' : Nat → Option Nat} {S S' : Nat → Prop} {w w' : World}
theorem cell_keep {b o : Nat} (h : w'.heap[b]? = w.heap[b]?) : w'.cell? ⟨b, o, none⟩ = w.cell? ⟨b, o, none⟩ := by
  simp only [World.cell?, h]
mutual
theorem srep_ext (hS : ∀ b, S b → S' b) (hk : ∀ c, S c → w'.heap[c]? = w.heap[c]?) : ∀ (x : AV) (v : Value), srep S w x v → srep S' w' x v
  | .bool _, _, h | .int _ _, _, h | .str _, _, h | .nilp, _, h | .nils, _, h | .nilm, _, h | .nilf, _, h | .nili, _, h => by simpa only [srep] using h
  | .ptr _ _, _, h | .sl _ _ _, _, h | .map _, _, h | .dead, _, h => by simp only [srep] at h
  | .sp cs, v, h => by
    simp only [srep] at h ⊢
    obtain ⟨b, o, hv, hb, hc⟩ := h
    exact ⟨b, o, hv, hS b hb, srepC_ext hS hk cs b o hb hc⟩
  | .row n cs, v, h => by
    simp only [srep] at h ⊢
    obtain ⟨A, c, hv, hn, hc⟩ := h
    refine ⟨A, c, hv, hn, hc.imp id ?_⟩
    rintro ⟨b, o, hA, hb, hc⟩
    exact ⟨b, o, hA, hS b hb, srepC_ext hS hk cs b o hb hc⟩
  | .fmap ks vs, v, h => by
    simp only [srep] at h ⊢
    obtain ⟨r, es, clock, hv, hr, hh, h1, h2⟩ := h
    exact ⟨r, es, clock, hv, hS r hr, (hk r hr).trans hh, srepL_ext hS hk ks _ h1, srepL_ext hS hk vs _ h2⟩
  | .func f first caps, v, h => by
    simp only [srep] at h ⊢
    obtain ⟨a, b, hv, h1, h2⟩ := h
    exact ⟨a, b, hv, srepL_ext hS hk first a h1, srepL_ext hS hk caps b h2⟩
  | .iface t x, v, h => by
    simp only [srep] at h ⊢
    obtain ⟨y, hv, hy⟩ := h
    exact ⟨y, hv, srep_ext hS hk x y hy⟩
  | .agg cs, v, h => by
    simp only [srep] at h ⊢
    obtain ⟨l, hv, hl⟩ := h
    exact ⟨l, hv, srepL_ext hS hk cs l hl⟩
  | .tuple cs, v, h => by
    simp only [srep] at h ⊢
    obtain ⟨l, hv, hl⟩ := h
    exact ⟨l, hv, srepL_ext hS hk cs l hl⟩
theorem srepL_ext (hS : ∀ b, S b → S' b) (hk : ∀ c, S c → w'.heap[c]? = w.heap[c]?) : ∀ (xs : List AV) (l : List Value), srepL S w xs l → srepL S' w' xs l
  | [], l, h => by simpa only [srepL] using h
  | x :: xs, l, h => by
    simp only [srepL] at h ⊢
    obtain ⟨v, r, hl, hx, hr⟩ := h
    exact ⟨v, r, hl, srep_ext hS hk x v hx, srepL_ext hS hk xs r hr⟩
theorem srepC_ext (hS : ∀ b, S b → S' b) (hk : ∀ c, S c → w'.heap[c]? = w.heap[c]?) : ∀ (xs : List AV) (b o : Nat), S b → srepC S w xs b o → srepC S' w' xs b o
  | [], _, _, _, _ => by simp only [srepC]
  | x :: xs, b, o, hb, h => by
    simp only [srepC] at h ⊢
    obtain ⟨⟨hf, v, hv, hx⟩, hr⟩ := h
    exact ⟨⟨hf, v, (cell_keep (hk b hb)).trans hv, srep_ext hS hk x v hx⟩, srepC_ext hS hk xs b (o + 1) hb hr⟩
end
mutual
theorem rep_ext (E : Ext β S w β' S' w') : ∀ (x : AV) (v : Value), rep P β S w x v → rep P β' S' w' x v
  | .bool _, _, h | .int _ _, _, h | .str _, _, h | .nilp, _, h | .nils, _, h | .nilm, _, h | .nilf, _, h | .nili, _, h => by simpa only [rep] using h
  | .dead, _, _ => by simp only [rep]
  | .ptr b off, v, h => by
    simp only [rep] at h ⊢
    obtain ⟨c, hc, hv⟩ := h
    exact ⟨c, E.im b c hc, hv⟩
  | .sl b off len, v, h => by
    simp only [rep] at h ⊢
    obtain ⟨c, cap, e, n, hc, hv, hl, hs, hn⟩ := h
    exact ⟨c, cap, e, n, E.im b c hc, hv, hl, E.shape c _ hs, hn⟩
  | .map b, v, h => by
    simp only [rep] at h ⊢
    obtain ⟨c, hc, hv⟩ := h
    exact ⟨c, E.im b c hc, hv⟩
  | .sp cs, v, h => by simp only [rep] at h ⊢; exact srep_ext E.st E.keep _ v h
  | .row n cs, v, h => by simp only [rep] at h ⊢; exact srep_ext E.st E.keep _ v h
  | .fmap ks vs, v, h => by simp only [rep] at h ⊢; exact srep_ext E.st E.keep _ v h
  | .func f first caps, v, h => by
    simp only [rep] at h ⊢
    obtain ⟨a, b, hv, h1, h2⟩ := h
    exact ⟨a, b, hv, repL_ext E first a h1, repL_ext E caps b h2⟩
  | .iface t x, v, h => by
    simp only [rep] at h ⊢
    obtain ⟨y, hv, hy⟩ := h
    exact ⟨y, hv, rep_ext E x y hy⟩
  | .agg cs, v, h => by
    simp only [rep] at h ⊢
    obtain ⟨l, hv, hl⟩ := h
    exact ⟨l, hv, repL_ext E cs l hl⟩
  | .tuple cs, v, h => by
    simp only [rep] at h ⊢
    obtain ⟨l, hv, hl⟩ := h
    exact ⟨l, hv, repL_ext E cs l hl⟩
theorem repL_ext (E : Ext β S w β' S' w') : ∀ (xs : List AV) (l : List Value), repL P β S w xs l → repL P β' S' w' xs l
  | [], l, h => by simpa only [repL] using h
  | x :: xs, l, h => by
    simp only [repL] at h ⊢
    obtain ⟨v, r, hl, hx, hr⟩ := h
    exact ⟨v, r, hl, rep_ext E x v hx, repL_ext E xs r hr⟩
end
mutual
theorem rep_of_srep : ∀ (x : AV) (v : Value), srep S w x v → rep P β S w x v
  | .bool _, _, h | .int _ _, _, h | .str _, _, h | .nilp, _, h | .nils, _, h | .nilm, _, h | .nilf, _, h | .nili, _, h => by simpa only [rep, srep] using h
  | .ptr _ _, _, h | .sl _ _ _, _, h | .map _, _, h | .dead, _, h => by simp only [srep] at h
  | .sp cs, v, h => by simp only [rep]; exact h
  | .row n cs, v, h => by simp only [rep]; exact h
  | .fmap ks vs, v, h => by simp only [rep]; exact h
  | .func f first caps, v, h => by
    simp only [srep] at h; simp only [rep]
    obtain ⟨a, b, hv, h1, h2⟩ := h
    exact ⟨a, b, hv, repL_of_srepL first a h1, repL_of_srepL caps b h2⟩
  | .iface t x, v, h => by
    simp only [srep] at h; simp only [rep]
    obtain ⟨y, hv, hy⟩ := h
    exact ⟨y, hv, rep_of_srep x y hy⟩
  | .agg cs, v, h => by
    simp only [srep] at h; simp only [rep]
    obtain ⟨l, hv, hl⟩ := h
    exact ⟨l, hv, repL_of_srepL cs l hl⟩
  | .tuple cs, v, h => by
    simp only [srep] at h; simp only [rep]
    obtain ⟨l, hv, hl⟩ := h
    exact ⟨l, hv, repL_of_srepL cs l hl⟩
theorem repL_of_srepL : ∀ (xs : List AV) (l : List Value), srepL S w xs l → repL P β S w xs l
  | [], l, h => by simpa only [repL, srepL] using h
  | x :: xs, l, h => by
    simp only [srepL] at h; simp only [repL]
    obtain ⟨v, r, hl, hx, hr⟩ := h
    exact ⟨v, r, hl, rep_of_srep x v hx, repL_of_srepL xs r hr⟩
end
theorem repL_iff : ∀ (xs : List AV) (l : List Value), repL P β S w xs l ↔ xs.length = l.length ∧ ∀ (i : Nat) (x : AV) (v : Value), xs[i]? = some x → l[i]? = some v → rep P β S w x v
  | [], l => by
    simp only [repL]
    constructor
    · rintro rfl; simp
    · rintro ⟨h, _⟩; exact List.eq_nil_of_length_eq_zero h.symm
  | x :: xs, l => by
    simp only [repL]
    constructor
    · rintro ⟨v, r, rfl, hx, hr⟩
      obtain ⟨h1, h2⟩ := (repL_iff xs r).1 hr
      refine ⟨by simp [h1], ?_⟩
      rintro (_ | i) y u hy hu
      · simp at hy hu; subst hy; subst hu; exact hx
      · exact h2 i y u (by simpa using hy) (by simpa using hu)
    · rintro ⟨h1, h2⟩
      cases l with
      | nil => simp at h1
      | cons v r =>
        exact ⟨v, r, rfl, h2 0 x v (by simp) (by simp), (repL_iff xs r).2 ⟨by simpa using h1, fun i y u hy hu => h2 (i + 1) y u (by simpa using hy) (by simpa using hu)⟩⟩
theorem repL_length {xs : List AV} {l : List Value} (h : repL P β S w xs l) : xs.length = l.length := ((repL_iff xs l).1 h).1
theorem repL_get {xs : List AV} {l : List Value} (h : repL P β S w xs l) {i : Nat} {x : AV} (hx : xs[i]? = some x) : ∃ v, l[i]? = some v ∧ rep P β S w x v := by
  obtain ⟨h1, h2⟩ := (repL_iff xs l).1 h
  have hi : i < l.length := by
    have := (List.getElem?_eq_some_iff.1 hx).1
    omega
  exact ⟨l[i], List.getElem?_eq_getElem hi, h2 i x _ hx (List.getElem?_eq_getElem hi)⟩
theorem repL_append : ∀ {xs ys : List AV} {l m : List Value}, repL P β S w xs l → repL P β S w ys m → repL P β S w (xs ++ ys) (l ++ m)
  | [], ys, l, m, h, k => by simp only [repL] at h; subst h; simpa using k
  | x :: xs, ys, l, m, h, k => by
    simp only [repL] at h
    obtain ⟨v, r, rfl, hx, hr⟩ := h
    simp only [List.cons_append, repL]
    exact ⟨v, r ++ m, rfl, hx, repL_append hr k⟩
theorem repL_take {xs : List AV} {l : List Value} (h : repL P β S w xs l) (n : Nat) : repL P β S w (xs.take n) (l.take n) := by
  obtain ⟨h1, h2⟩ := (repL_iff xs l).1 h
  refine (repL_iff _ _).2 ⟨by simp [h1], fun i x v hx hv => ?_⟩
  rw [List.getElem?_take] at hx hv
  split at hx <;> simp_all
  exact h2 i x v hx hv
theorem repL_drop {xs : List AV} {l : List Value} (h : repL P β S w xs l) (n : Nat) : repL P β S w (xs.drop n) (l.drop n) := by
  obtain ⟨h1, h2⟩ := (repL_iff xs l).1 h
  refine (repL_iff _ _).2 ⟨by simp [h1], fun i x v hx hv => ?_⟩
  rw [List.getElem?_drop] at hx hv
  exact h2 _ x v hx hv
theorem srepC_iff : ∀ (xs : List AV) (b o : Nat), srepC S w xs b o ↔ ∀ (i : Nat) (x : AV), xs[i]? = some x → x.flat = true ∧ ∃ v, w.cell? ⟨b, o + i, none⟩ = some v ∧ srep S w x v
  | [], b, o => by simp [srepC]
  | x :: xs, b, o => by
    simp only [srepC, srepC_iff xs b (o + 1)]
    constructor
    · rintro ⟨h1, h2⟩ (_ | i) y hy
      · simp at hy; subst hy; exact h1
      · have := h2 i y (by simpa using hy)
        rwa [show o + 1 + i = o + (i + 1) by omega] at this
    · intro h
      refine ⟨h 0 x (by simp), fun i y hy => ?_⟩
      have := h (i + 1) y (by simpa using hy)
      rwa [show o + (i + 1) = o + 1 + i by omega] at this
theorem srepC_drop {xs : List AV} {b o : Nat} (h : srepC S w xs b o) (n : Nat) : srepC S w (xs.drop n) b (o + n) := by
  rw [srepC_iff] at h ⊢
  intro i x hx
  rw [List.getElem?_drop] at hx
  have := h _ x hx
  rwa [show o + (n + i) = o + n + i by omega] at this
theorem srepC_take {xs : List AV} {b o : Nat} (h : srepC S w xs b o) (n : Nat) : srepC S w (xs.take n) b o := by
  rw [srepC_iff] at h ⊢
  intro i x hx
  rw [List.getElem?_take] at hx
  split at hx
  · exact h i x hx
  · cases hx
end
theorem getB_setB (H : Heap) (b b' : Nat) (x : Option Blk) : getB (setB H b x) b' = if b' = b then x else getB H b' := by
  induction H generalizing b b' with
  | nil =>
    induction b generalizing b' with
    | zero => cases b' <;> simp [setB, getB]
    | succ n ih =>
      cases b' with
      | zero => simp [setB, getB]
      | succ m => simp only [setB, getB, ih m]; simp
  | cons h t ih =>
    cases b with
    | zero => cases b' <;> simp [setB, getB]
    | succ n =>
      cases b' with
      | zero => simp [setB, getB]
      | succ m => simp only [setB, getB, ih n m]; simp
end Go.Am
end
section
namespace Go.Am
open Go Go.RowKit
def Rb (P : Program) (β : Nat → Option Nat) (S : Nat → Prop) (w : World) (c : Nat) (frozen : Bool) : Blk → Prop
  | .cells elem sz cs => ∃ (ccs : Array Value) (fr : Nat × Nat), w.heap[c]? = some (.cells ccs elem fr) ∧ (frozen = false → fr = (0, 0)) ∧ P.cellsOf elem = sz ∧ cs.length ≤ ccs.size ∧
      ∀ (i : Nat) (x : AV), cs[i]? = some x → x.flat = true ∧ ∃ v, ccs[i]? = some v ∧ rep P β S w x v
  | .map ks vs => ∃ (es : Array MapEntry) (clock : Nat), w.heap[c]? = some (.map es clock) ∧ repL P β S w ks (es.toList.map (·.key)) ∧ repL P β S w vs (es.toList.map (·.val))
structure Inv (P : Program) (B : Nat) (β : Nat → Option Nat) (S : Nat → Prop) (fz : List Nat) (H : Heap) (w : World) : Prop where
  rb : ∀ b c blk, β b = some c → getB H b = some blk → Rb P β S w c (fz.contains b) blk
  sep : ∀ b c, β b = some c → (getB H b).isSome → fz.contains b = false → B ≤ c ∧ ¬ S c
  fzS : ∀ b c, β b = some c → fz.contains b = true → S c
  inj : ∀ b b' c, β b = some c → β b' = some c → (getB H b).isSome → (getB H b').isSome → fz.contains b = false → b = b'
  S_lt : ∀ c, S c → c < w.heap.size
  β_lt : ∀ b c, β b = some c → c < w.heap.size
  fzd : ∀ b, fz.contains b = true → (β b).isSome
  B_le : B ≤ w.heap.size
def Grow (β : Nat → Option Nat) (w : World) (nx nx' : Nat) (wr : Nat → Prop) (β' : Nat → Option Nat) : Prop :=
  nx ≤ nx' ∧ ∀ b, β' b = β b ∨ (nx ≤ b ∧ b < nx' ∧ ∃ c, β' b = some c ∧ (w.heap.size ≤ c ∨ ∃ b0, wr b0 ∧ β b0 = some c))
theorem Grow.refl (β : Nat → Option Nat) (w : World) (nx : Nat) (wr : Nat → Prop) : Grow β w nx nx wr β := ⟨Nat.le_refl _, fun _ => .inl rfl⟩
def Good (P : Program) (B : Nat) (β : Nat → Option Nat) (S : Nat → Prop) (fz : List Nat) (nx : Nat) (wr : List Nat) (w : World) (v : AV) (H' : Heap) (nx' : Nat) (r : Result Next) : Prop :=
  ∃ nv w' β' S' vv, r = .ok nv w' ∧ (nv = .value vv ∨ (nv = .skip ∧ vv = undef)) ∧ Ext β S w β' S' w' ∧ Inv P B β' S' fz H' w' ∧ rep P β' S' w' v vv ∧ Below B w w' ∧
    Grow β w nx nx' (· ∈ wr) β' ∧ (∀ c, c < w.heap.size → (∀ b, b ∈ wr → β b ≠ some c) → w'.heap[c]? = w.heap[c]?) ∧ (∀ c, S' c → S c ∨ w.heap.size ≤ c)
section
variable {P : Program} {B : Nat} {β β' : Nat → Option Nat} {S S' : Nat → Prop} {fz : List Nat} {H H' : Heap} {nx nx' : Nat} {wr : List Nat} {w w' : World} {v : AV} {vv : Value} {r : Result Next}
theorem Rb.ext {c : Nat} {f : Bool} {blk : Blk} (E : Ext β S w β' S' w') (hc : w'.heap[c]? = w.heap[c]?) (h : Rb P β S w c f blk) : Rb P β' S' w' c f blk := by
  cases blk with
  | cells elem sz cs =>
    obtain ⟨ccs, fr, h1, h2, h3, h4, h5⟩ := h
    exact ⟨ccs, fr, hc.trans h1, h2, h3, h4, fun i x hx => ⟨(h5 i x hx).1, let ⟨v, hv, hr⟩ := (h5 i x hx).2; ⟨v, hv, rep_ext E x v hr⟩⟩⟩
  | map ks vs =>
    obtain ⟨es, clock, h1, h2, h3⟩ := h
    exact ⟨es, clock, hc.trans h1, repL_ext E _ _ h2, repL_ext E _ _ h3⟩
theorem Rb.frozen {c : Nat} {f : Bool} {blk : Blk} (h : Rb P β S w c f blk) : Rb P β S w c true blk := by
  cases blk with
  | cells elem sz cs =>
    obtain ⟨ccs, fr, h1, h2, h3, h4, h5⟩ := h
    exact ⟨ccs, fr, h1, fun h => by simp at h, h3, h4, h5⟩
  | map ks vs => exact h
theorem good_same (hI : Inv P B β S fz H w) (hr : r = .ok (.value vv) w) (h : rep P β S w v vv) : Good P B β S fz nx wr w v H nx r :=
  ⟨_, w, β, S, vv, hr, .inl rfl, Ext.refl _ _ _, hI, h, Below.refl _ _, Grow.refl _ _ _ _, fun _ _ _ => rfl, fun _ h => .inl h⟩
def addB (β : Nat → Option Nat) (b c : Nat) : Nat → Option Nat := fun x => if x = b then some c else β x
theorem addB_same (b c : Nat) : addB β b c b = some c := by simp [addB]
theorem addB_other {b c x : Nat} (h : x ≠ b) : addB β b c x = β x := by simp [addB, h]
theorem ext_alloc (hI : Inv P B β S fz H w) (hn : β nx = none) (o : Obj) : Ext β S w (addB β nx w.heap.size) S (w.alloc o) where
  im b c h := by
    rw [addB_other]; exact h
    rintro rfl; rw [hn] at h; cases h
  st _ h := h
  keep c hc := by
    have := hI.S_lt c hc
    show (w.heap.push o)[c]? = _
    rw [Array.getElem?_push, if_neg (by omega)]
  shape c x h := by
    have hlt : c < w.heap.size := by
      simp only [World.shape?] at h
      split at h
      · rename_i hh; exact (Array.getElem?_eq_some_iff.1 hh).1
      · cases h
    simp only [World.shape?] at h ⊢
    have : (w.alloc o).heap[c]? = w.heap[c]? := by
      show (w.heap.push o)[c]? = _
      rw [Array.getElem?_push, if_neg (by omega)]
    rw [this]; exact h
theorem heap_alloc_lt (w : World) (o : Obj) {c : Nat} (h : c < w.heap.size) : (w.alloc o).heap[c]? = w.heap[c]? := by
  show (w.heap.push o)[c]? = _
  rw [Array.getElem?_push, if_neg (by omega)]
theorem heap_alloc_at (w : World) (o : Obj) : (w.alloc o).heap[w.heap.size]? = some o := by
  show (w.heap.push o)[w.heap.size]? = _
  rw [Array.getElem?_push, if_pos rfl]
theorem size_alloc (w : World) (o : Obj) : (w.alloc o).heap.size = w.heap.size + 1 := by
  show (w.heap.push o).size = _
  simp
theorem grow_alloc {c : Nat} (h : w.heap.size ≤ c ∨ ∃ b0, b0 ∈ wr ∧ β b0 = some c) : Grow β w nx (nx + 1) (· ∈ wr) (addB β nx c) := by
  refine ⟨Nat.le_succ _, fun b => ?_⟩
  by_cases e : b = nx
  · subst e
    exact .inr ⟨Nat.le_refl _, Nat.lt_succ_self _, c, addB_same _ _, h⟩
  · exact .inl (addB_other e)
theorem inv_alloc (hI : Inv P B β S fz H w) (hn : β nx = none) (o : Obj) (blk : Blk) (hb : Rb P (addB β nx w.heap.size) S (w.alloc o) w.heap.size false blk) :
    Inv P B (addB β nx w.heap.size) S fz (setB H nx (some blk)) (w.alloc o) := by
  have hE := ext_alloc hI hn o
  have hfz : fz.contains nx = false := by
    cases h : fz.contains nx with
    | false => rfl
    | true => have := hI.fzd nx h; rw [hn] at this; cases this
  have old : ∀ {b c : Nat}, addB β nx w.heap.size b = some c → b ≠ nx → β b = some c := fun h hne => by rwa [addB_other hne] at h
  refine ⟨?_, ?_, ?_, ?_, ?_, ?_, ?_, ?_⟩
  · intro b c x h1 h2
    rw [getB_setB] at h2
    by_cases e : b = nx
    · subst e
      rw [addB_same] at h1
      cases h1
      simp only [if_true] at h2
      cases h2
      rw [hfz]; exact hb
    · rw [if_neg e] at h2
      have h1' := old h1 e
      exact (hI.rb b c x h1' h2).ext hE (heap_alloc_lt w o (hI.β_lt b c h1'))
  · intro b c h1 h2 h3
    by_cases e : b = nx
    · subst e
      rw [addB_same] at h1
      cases h1
      exact ⟨hI.B_le, fun h => Nat.lt_irrefl _ (hI.S_lt _ h)⟩
    · rw [getB_setB, if_neg e] at h2
      exact hI.sep b c (old h1 e) h2 h3
  · intro b c h1 h2
    have e : b ≠ nx := by rintro rfl; rw [hfz] at h2; cases h2
    exact hI.fzS b c (old h1 e) h2
  · intro b b' c h1 h2 h3 h4 h5
    by_cases e : b = nx
    · by_cases e' : b' = nx
      · rw [e, e']
      · subst e
        rw [addB_same] at h1
        cases h1
        exact absurd (hI.β_lt b' _ (old h2 e')) (Nat.lt_irrefl _)
    · by_cases e' : b' = nx
      · subst e'
        rw [addB_same] at h2
        cases h2
        exact absurd (hI.β_lt b _ (old h1 e)) (Nat.lt_irrefl _)
      · rw [getB_setB, if_neg e] at h3
        rw [getB_setB, if_neg e'] at h4
        exact hI.inj b b' c (old h1 e) (old h2 e') h3 h4 h5
  · intro c h
    rw [size_alloc]
    exact Nat.lt_succ_of_lt (hI.S_lt c h)
  · intro b c h
    rw [size_alloc]
    by_cases e : b = nx
    · subst e; rw [addB_same] at h; cases h; exact Nat.lt_succ_self _
    · exact Nat.lt_succ_of_lt (hI.β_lt b c (old h e))
  · intro b h
    have := hI.fzd b h
    by_cases e : b = nx
    · subst e; rw [addB_same]; rfl
    · rw [addB_other e]; exact this
  · rw [size_alloc]; exact Nat.le_succ_of_le hI.B_le
theorem good_alloc (hI : Inv P B β S fz H w) (hn : β nx = none) (o : Obj) (blk : Blk) (hr : r = .ok (.value vv) (w.alloc o))
    (hb : Rb P (addB β nx w.heap.size) S (w.alloc o) w.heap.size false blk) (hv : rep P (addB β nx w.heap.size) S (w.alloc o) v vv) :
    Good P B β S fz nx wr w v (setB H nx (some blk)) (nx + 1) r :=
  ⟨_, _, _, S, vv, hr, .inl rfl, ext_alloc hI hn o, inv_alloc hI hn o blk hb, hv, (Below.refl _ _).alloc hI.B_le o, grow_alloc (.inl (Nat.le_refl _)), fun c hc _ => heap_alloc_lt w o hc, fun _ h => .inl h⟩
theorem rb_new {elem : TypeId} {sz : Nat} {cs : List AV} {l : List Value} (hI : Inv P B β S fz H w) (hn : β nx = none) (hsz : P.cellsOf elem = sz) (hl : repL P β S w cs l) (hf : flatL cs = true) :
    Rb P (addB β nx w.heap.size) S (w.alloc (.cells l.toArray elem)) w.heap.size false (.cells elem sz cs) := by
  refine ⟨l.toArray, (0, 0), heap_alloc_at _ _, fun _ => rfl, hsz, by simp [repL_length hl], fun i x hx => ⟨?_, ?_⟩⟩
  · exact (List.all_eq_true.1 hf) x (List.mem_of_getElem? hx)
  · obtain ⟨v, hv, hr⟩ := repL_get hl hx
    exact ⟨v, by simpa using hv, rep_ext (ext_alloc hI hn _) x v hr⟩
end
section
variable {P : Program} {B : Nat} {β : Nat → Option Nat} {S : Nat → Prop} {fz : List Nat} {H : Heap} {nx : Nat} {wr : List Nat} {w : World}
theorem heap_setCells (b : Nat) : ∀ (vs : List Value) (o : Nat) (w : World) (c : Nat), c ≠ b → (w.setCells b o vs).heap[c]? = w.heap[c]?
  | [], _, _, _, _ => rfl
  | v :: r, o, w, c, h => by
    rw [World.setCells, heap_setCells b r (o + 1) _ c h]
    exact Below.heap_setCell w ⟨b, o, none⟩ v c h
theorem size_setCells (b : Nat) : ∀ (vs : List Value) (o : Nat) (w : World), (w.setCells b o vs).heap.size = w.heap.size
  | [], _, _ => rfl
  | v :: r, o, w => by rw [World.setCells, size_setCells b r (o + 1)]; simp [World.setCell]
theorem setCells_eq (b : Nat) {elem : TypeId} {fr : Nat × Nat} : ∀ (vs : List Value) (o : Nat) (w : World) (ccs : Array Value), w.heap[b]? = some (.cells ccs elem fr) → o + vs.length ≤ ccs.size →
    ∃ ccs' : Array Value, (w.setCells b o vs).heap[b]? = some (.cells ccs' elem fr) ∧ ccs'.size = ccs.size ∧ ∀ i : Nat, ccs'[i]? = if o ≤ i ∧ i < o + vs.length then vs[i - o]? else ccs[i]?
  | [], o, w, ccs, h, _ => ⟨ccs, h, rfl, fun i => by rw [if_neg]; simp⟩
  | v :: r, o, w, ccs, h, hl => by
    have h1 : (w.setCell ⟨b, o, none⟩ v).heap[b]? = some (.cells (ccs.setIfInBounds o v) elem fr) := by
      simp [World.setCell, Array.getElem?_modify, h]
    obtain ⟨ccs', h2, h3, h4⟩ := setCells_eq b r (o + 1) _ _ h1 (by simp at hl ⊢; omega)
    refine ⟨ccs', h2, by simpa using h3, fun i => ?_⟩
    rw [h4]
    simp only [List.length_cons] at hl ⊢
    by_cases e : i = o
    · subst e
      rw [if_neg (by omega), if_pos (by omega)]
      simp [Array.getElem?_setIfInBounds]
      omega
    · by_cases e2 : o + 1 ≤ i ∧ i < o + 1 + r.length
      · rw [if_pos e2, if_pos (by omega)]
        obtain ⟨k, hk⟩ : ∃ k, i - o = k + 1 := ⟨i - o - 1, by omega⟩
        rw [hk, List.getElem?_cons_succ]
        congr 1
        omega
      · rw [if_neg e2, if_neg (by omega), Array.getElem?_setIfInBounds_ne (Ne.symm e)]
theorem ext_set {c o : Nat} {vs : List Value} {ccs : Array Value} {elem : TypeId} {fr : Nat × Nat} (hc : w.heap[c]? = some (.cells ccs elem fr)) (hS : ¬ S c) (hl : o + vs.length ≤ ccs.size) :
    Ext β S w β S (w.setCells c o vs) := by
  refine ⟨fun _ _ h => h, fun _ h => h, fun d hd => heap_setCells c vs o w d (by rintro rfl; exact hS hd), fun d x hx => ?_⟩
  by_cases e : d = c
  · subst e
    obtain ⟨ccs', h1, h2, _⟩ := setCells_eq d vs o w ccs hc hl
    simp only [World.shape?, hc] at hx
    simp only [World.shape?, h1, h2]
    exact hx
  · simp only [World.shape?] at hx ⊢
    rw [heap_setCells c vs o w d e]; exact hx
theorem rb_set {c : Nat} {o : Nat} {elem : TypeId} {sz : Nat} {cs new : List AV} {vs : List Value} (hE : Ext β S w β S (w.setCells c o vs)) (h : Rb P β S w c false (.cells elem sz cs)) (hnew : repL P β S w new vs) (hf : flatL new = true) (hl : o + new.length ≤ cs.length) :
    Rb P β S (w.setCells c o vs) c false (.cells elem sz (cs.take o ++ new ++ cs.drop (o + new.length))) := by
  obtain ⟨ccs, fr, h1, h2, h3, h4, h5⟩ := h
  have hlen := repL_length hnew
  obtain ⟨ccs', k1, k2, k3⟩ := setCells_eq c vs o w ccs h1 (by omega)
  refine ⟨ccs', fr, k1, h2, h3, by simp; omega, fun i x hx => ?_⟩
  rw [k3]
  by_cases e1 : i < o
  · rw [if_neg (by omega)]
    rw [List.append_assoc, List.getElem?_append_left (by simp; omega), List.getElem?_take, if_pos e1] at hx
    obtain ⟨h6, v, h7, h8⟩ := h5 i x hx
    exact ⟨h6, v, h7, rep_ext hE x v h8⟩
  · by_cases e2 : i < o + new.length
    · rw [if_pos (by omega)]
      rw [List.append_assoc, List.getElem?_append_right (by simp; omega), List.getElem?_append_left (by simp; omega)] at hx
      have hx' : new[i - o]? = some x := by
        rw [← hx]; congr 1; simp; omega
      obtain ⟨v, h7, h8⟩ := repL_get hnew hx'
      exact ⟨(List.all_eq_true.1 hf) x (List.mem_of_getElem? hx'), v, h7, rep_ext hE x v h8⟩
    · rw [if_neg (by omega)]
      rw [List.append_assoc, List.getElem?_append_right (by simp; omega), List.getElem?_append_right (by simp; omega), List.getElem?_drop] at hx
      have hx' : cs[i]? = some x := by
        rw [← hx]; congr 1; simp; omega
      obtain ⟨h6, v, h7, h8⟩ := h5 i x hx'
      exact ⟨h6, v, h7, rep_ext hE x v h8⟩
theorem inv_set {b c o : Nat} {vs : List Value} {blk : Blk} (hI : Inv P B β S fz H w) (hb : β b = some c) (hsome : (getB H b).isSome) (hfz : fz.contains b = false) (hE : Ext β S w β S (w.setCells c o vs))
    (hnew : Rb P β S (w.setCells c o vs) c false blk) : Inv P B β S fz (setB H b (some blk)) (w.setCells c o vs) := by
  refine ⟨?_, ?_, hI.fzS, ?_, ?_, ?_, hI.fzd, ?_⟩
  · intro b' c' x h1 h2
    rw [getB_setB] at h2
    by_cases e : b' = b
    · subst e
      rw [if_pos rfl] at h2
      cases h2
      rw [hb] at h1
      cases h1
      rw [hfz]; exact hnew
    · rw [if_neg e] at h2
      have hne : c' ≠ c := by
        rintro rfl
        exact e (hI.inj b b' c' hb h1 hsome (by rw [h2]; rfl) hfz).symm
      exact (hI.rb b' c' x h1 h2).ext hE (heap_setCells c vs o w c' hne)
  · intro b' c' h1 h2 h3
    rw [getB_setB] at h2
    by_cases e : b' = b
    · subst e; exact hI.sep b' c' h1 hsome h3
    · rw [if_neg e] at h2; exact hI.sep b' c' h1 h2 h3
  · intro x y d h1 h2 h3 h4 h5
    have g : ∀ z, (getB (setB H b (some blk)) z).isSome = true → (getB H z).isSome = true := fun z hz => by
      rw [getB_setB] at hz
      by_cases e : z = b
      · subst e; exact hsome
      · rwa [if_neg e] at hz
    exact hI.inj x y d h1 h2 (g x h3) (g y h4) h5
  · intro d hd; rw [size_setCells]; exact hI.S_lt d hd
  · intro x d hd; rw [size_setCells]; exact hI.β_lt x d hd
  · rw [size_setCells]; exact hI.B_le
theorem below_setCells {c : Nat} (hB : B ≤ c) : ∀ (vs : List Value) (o : Nat) (w : World), Below B w (w.setCells c o vs)
  | [], _, _ => Below.refl _ _
  | v :: r, o, w => by
    rw [World.setCells]
    exact ((Below.refl B w).setCell (p := ⟨c, o, none⟩) hB v).trans (below_setCells hB r (o + 1) _)
end
end Go.Am
end
