/- Parts of the proof. -/
import Derived.Test.YtjilaaoaebglbaaGreatDoorA00
set_option linter.unusedVariables false
set_option linter.unusedSimpArgs false
set_option linter.unnecessarySimpa false
set_option linter.unusedSectionVars false
section
namespace Go.Am
open Go
def kN : IntKind → Nat
  | .i8 => 0
  | .i16 => 1
  | .i32 => 2
  | .i64 => 3
  | .u8 => 4
  | .u16 => 5
  | .u32 => 6
  | .u64 => 7
theorem kN_eq (a b : IntKind) : Nat.beq (kN a) (kN b) = decide (a = b) := by cases a <;> cases b <;> rfl
def wrapS (h : Nat) : Int → (Int → Int) → Int
  | .ofNat m => fun k => bif Nat.ble (m + 1) h then .ofNat m else k (.ofNat m)
  | .negSucc m => fun k => bif Nat.ble (m + 1) h then .negSucc m else k (.negSucc m)
def wrapU (h : Nat) : Int → (Int → Int) → Int
  | .ofNat m => fun k => bif Nat.ble (m + 1) h then .ofNat m else k (.ofNat m)
  | .negSucc m => fun k => k (.negSucc m)
def wrapF : IntKind → Int → Int
  | .i8 => fun n => IntKind.wrap .i8 n
  | .i16 => fun n => IntKind.wrap .i16 n
  | .i32 => fun n => IntKind.wrap .i32 n
  | .i64 => fun n => wrapS 9223372036854775808 n (IntKind.wrap .i64)
  | .u8 => fun n => wrapU 256 n (IntKind.wrap .u8)
  | .u16 => fun n => IntKind.wrap .u16 n
  | .u32 => fun n => wrapU 4294967296 n (IntKind.wrap .u32)
  | .u64 => fun n => wrapU 18446744073709551616 n (IntKind.wrap .u64)
theorem wrapS_eq {h : Nat} {f : Int → Int} (hf : ∀ n : Int, -(h : Int) ≤ n → n < h → f n = n) : ∀ n, wrapS h n f = f n
  | .ofNat m => by
    simp only [wrapS]
    by_cases c : m + 1 ≤ h
    · rw [Nat.ble_eq_true_of_le c, cond_true, hf _ (by have : (0:Int) ≤ Int.ofNat m := Int.natCast_nonneg m; omega) (by simp; omega)]
    · rw [Bool.eq_false_iff.2 (fun e => c (Nat.le_of_ble_eq_true e)), cond_false]
  | .negSucc m => by
    simp only [wrapS]
    by_cases c : m + 1 ≤ h
    · rw [Nat.ble_eq_true_of_le c, cond_true, hf _ (by omega) (by omega)]
    · rw [Bool.eq_false_iff.2 (fun e => c (Nat.le_of_ble_eq_true e)), cond_false]
theorem wrapU_eq {h : Nat} {f : Int → Int} (hf : ∀ n : Int, 0 ≤ n → n < h → f n = n) : ∀ n, wrapU h n f = f n
  | .ofNat m => by
    simp only [wrapU]
    by_cases c : m + 1 ≤ h
    · rw [Nat.ble_eq_true_of_le c, cond_true, hf _ (by simp) (by simp; omega)]
    · rw [Bool.eq_false_iff.2 (fun e => c (Nat.le_of_ble_eq_true e)), cond_false]
  | .negSucc m => rfl
theorem wrapF_eq (k : IntKind) (n : Int) : wrapF k n = k.wrap n := by
  cases k <;> first
    | rfl
    | (refine wrapS_eq (fun n h1 h2 => ?_) n; simp [IntKind.wrap, IntKind.bits, IntKind.signed] at *; split <;> omega)
    | (refine wrapU_eq (fun n h1 h2 => ?_) n; simp [IntKind.wrap, IntKind.bits, IntKind.signed] at *; omega)
def ltI : Int → Int → Bool
  | .ofNat a, .ofNat b => Nat.ble (a + 1) b
  | .ofNat _, .negSucc _ => false
  | .negSucc _, .ofNat _ => true
  | .negSucc a, .negSucc b => Nat.ble (b + 1) a
theorem ble_dec (a b : Nat) : Nat.ble a b = decide (a ≤ b) := by
  by_cases h : a ≤ b
  · rw [Nat.ble_eq_true_of_le h, decide_eq_true h]
  · rw [decide_eq_false h, Bool.eq_false_iff.2 (fun e => h (Nat.le_of_ble_eq_true e))]
theorem ltI_eq : ∀ x y : Int, ltI x y = decide (x < y)
  | .ofNat a, .ofNat b => by rw [ltI, ble_dec, decide_eq_decide]; simp; omega
  | .ofNat a, .negSucc b => by rw [ltI]; exact (decide_eq_false (by have : (0:Int) ≤ Int.ofNat a := Int.natCast_nonneg a; omega)).symm
  | .negSucc a, .ofNat b => by rw [ltI]; exact (decide_eq_true (by have : (0 : Int) ≤ Int.ofNat b := Int.natCast_nonneg b; omega)).symm
  | .negSucc a, .negSucc b => by rw [ltI, ble_dec, decide_eq_decide]; omega
def eqI : Int → Int → Bool
  | .ofNat a, .ofNat b => Nat.beq a b
  | .negSucc a, .negSucc b => Nat.beq a b
  | _, _ => false
theorem beq_dec (a b : Nat) : Nat.beq a b = decide (a = b) := by
  by_cases h : a = b
  · rw [decide_eq_true h, h, Nat.beq_refl]
  · rw [decide_eq_false h]; exact Bool.eq_false_iff.2 fun e => h (Nat.eq_of_beq_eq_true e)
theorem eqI_eq : ∀ x y : Int, eqI x y = (x == y)
  | .ofNat a, .ofNat b => by rw [eqI, beq_dec, Bool.beq_eq_decide_eq, decide_eq_decide]; exact ⟨fun h => by rw [h], fun h => Int.ofNat.inj h⟩
  | .ofNat a, .negSucc b => rfl
  | .negSucc a, .ofNat b => rfl
  | .negSucc a, .negSucc b => by rw [eqI, beq_dec, Bool.beq_eq_decide_eq, decide_eq_decide]; exact ⟨fun h => by rw [h], fun h => Int.negSucc.inj h⟩
def eqS : List UInt8 → List UInt8 → Bool
  | [], [] => true
  | a :: x, b :: y => bif Nat.beq a.toNat b.toNat then eqS x y else false
  | _, _ => false
theorem eqS_eq : ∀ x y : List UInt8, eqS x y = (x == y)
  | [], [] => rfl
  | [], _ :: _ => rfl
  | _ :: _, [] => rfl
  | a :: x, b :: y => by
    rw [eqS, eqS_eq x y, beq_dec, List.cons_beq_cons]
    by_cases h : a = b
    · subst h; simp
    · rw [decide_eq_false (fun e => h (UInt8.toNat_inj.1 e)), beq_false_of_ne h]; rfl
def ltS : List UInt8 → List UInt8 → Bool
  | _, [] => false
  | [], _ :: _ => true
  | a :: x, b :: y => bif Nat.ble (a.toNat + 1) b.toNat then true else bif Nat.beq a.toNat b.toNat then ltS x y else false
theorem ltS_eq : ∀ x y : List UInt8, ltS x y = Op.bytesLess x y
  | [], [] => rfl
  | _ :: _, [] => rfl
  | [], _ :: _ => rfl
  | a :: x, b :: y => by
    rw [ltS, ltS_eq x y, beq_dec, ble_dec, Op.bytesLess]
    by_cases h : a < b
    · rw [decide_eq_true (show a.toNat + 1 ≤ b.toNat from UInt8.lt_iff_toNat_lt.1 h), decide_eq_true h]; rfl
    · rw [decide_eq_false (show ¬ a.toNat + 1 ≤ b.toNat from fun e => h (UInt8.lt_iff_toNat_lt.2 e)), decide_eq_false h]
      by_cases e : a = b
      · subst e; simp
      · rw [decide_eq_false (fun k => e (UInt8.toNat_inj.1 k)), beq_false_of_ne e]; rfl
def binIF : BinOp → IntKind → Int → Int → Option AV
  | .add => fun k x y => some (.int k (wrapF k (x + y)))
  | .sub => fun k x y => some (.int k (wrapF k (x - y)))
  | .mul => fun k x y => some (.int k (wrapF k (x * y)))
  | .quo => fun k x y => bif eqI y 0 then none else some (.int k (wrapF k (x.tdiv y)))
  | .rem => fun k x y => bif eqI y 0 then none else some (.int k (x.tmod y))
  | .and => fun k x y => some (.int k (wrapF k (BitVec.ofInt k.bits x &&& BitVec.ofInt k.bits y).toNat))
  | .or => fun k x y => some (.int k (wrapF k (BitVec.ofInt k.bits x ||| BitVec.ofInt k.bits y).toNat))
  | .xor => fun k x y => some (.int k (wrapF k (BitVec.ofInt k.bits x ^^^ BitVec.ofInt k.bits y).toNat))
  | .andNot => fun k x y => some (.int k (wrapF k (BitVec.ofInt k.bits x &&& ~~~BitVec.ofInt k.bits y).toNat))
  | .eql => fun _ x y => some (.bool (eqI x y))
  | .neq => fun _ x y => some (.bool (!eqI x y))
  | .lss => fun _ x y => some (.bool (ltI x y))
  | .leq => fun _ x y => some (.bool (!ltI y x))
  | .gtr => fun _ x y => some (.bool (ltI y x))
  | .geq => fun _ x y => some (.bool (!ltI x y))
  | .shl => fun _ _ _ => none
  | .shr => fun _ _ _ => none
theorem binIF_eq (op : BinOp) (k : IntKind) (x y : Int) : binIF op k x y = binInt op k x y := by
  have h1 : ∀ a b : Int, (!decide (a < b)) = decide (b ≤ a) := fun a b => by
    by_cases h : a < b
    · rw [decide_eq_true h, decide_eq_false (by omega)]; rfl
    · rw [decide_eq_false h, decide_eq_true (by omega)]; rfl
  cases op <;> simp only [binIF, binInt, cmpInt, wrapF_eq, eqI_eq, ltI_eq, h1] <;> first
    | rfl
    | (by_cases h : y = 0
       · subst h; rfl
       · rw [beq_false_of_ne h, if_neg h]; rfl)
def binSF : BinOp → List UInt8 → List UInt8 → Option AV
  | .add => fun x y => bif Nat.ble (x.length + y.length) 9223372036854775807 then some (.str (x ++ y)) else none
  | .eql => fun x y => some (.bool (eqS x y))
  | .neq => fun x y => some (.bool (!eqS x y))
  | .lss => fun x y => some (.bool (ltS x y))
  | .leq => fun x y => some (.bool (ltS x y || eqS x y))
  | .gtr => fun x y => some (.bool !(ltS x y || eqS x y))
  | .geq => fun x y => some (.bool !(ltS x y))
  | .sub => fun _ _ => none
  | .mul => fun _ _ => none
  | .quo => fun _ _ => none
  | .rem => fun _ _ => none
  | .and => fun _ _ => none
  | .or => fun _ _ => none
  | .xor => fun _ _ => none
  | .andNot => fun _ _ => none
  | .shl => fun _ _ => none
  | .shr => fun _ _ => none
theorem binSF_eq (op : BinOp) (x y : List UInt8) : binSF op x y = binStr op x y := by
  cases op <;> simp only [binSF, binStr, eqS_eq, ltS_eq, ble_dec] <;> first
    | rfl
    | (by_cases h : x.length + y.length ≤ 9223372036854775807
       · rw [if_pos h, decide_eq_true h]; rfl
       · rw [if_neg h, decide_eq_false h]; rfl)
def shF : BinOp → IntKind → Int → Int → Option (Option AV)
  | .shl => fun k a b => some (if b < 0 then none else some (.int k (wrapF k (a * 2 ^ min b.toNat k.bits))))
  | .shr => fun k a b => some (if b < 0 then none else some (.int k (a.fdiv (2 ^ min b.toNat k.bits))))
  | .add => fun _ _ _ => none
  | .eql => fun _ _ _ => none
  | .neq => fun _ _ _ => none
  | .lss => fun _ _ _ => none
  | .leq => fun _ _ _ => none
  | .gtr => fun _ _ _ => none
  | .geq => fun _ _ _ => none
  | .sub => fun _ _ _ => none
  | .mul => fun _ _ _ => none
  | .quo => fun _ _ _ => none
  | .rem => fun _ _ _ => none
  | .and => fun _ _ _ => none
  | .or => fun _ _ _ => none
  | .xor => fun _ _ _ => none
  | .andNot => fun _ _ _ => none
def binII (op : BinOp) (k k' : IntKind) (a b : Int) : Option AV := match shF op k a b with
  | some r => r
  | none => bif Nat.beq (kN k) (kN k') then binIF op k a b else none
def binAF (op : BinOp) : AV → AV → Option AV
  | .int k a => fun y => match y with
    | .int k' b => binII op k k' a b
    | _ => none
  | .str a => fun y => match y with
    | .str b => binSF op a b
    | _ => none
  | .bool _ => fun _ => none
  | .nilp => fun _ => none
  | .ptr _ _ => fun _ => none
  | .sp _ => fun _ => none
  | .nils => fun _ => none
  | .sl _ _ _ => fun _ => none
  | .row _ _ => fun _ => none
  | .nilm => fun _ => none
  | .map _ => fun _ => none
  | .fmap _ _ => fun _ => none
  | .nilf => fun _ => none
  | .func _ _ _ => fun _ => none
  | .nili => fun _ => none
  | .iface _ _ => fun _ => none
  | .agg _ => fun _ => none
  | .tuple _ => fun _ => none
  | .dead => fun _ => none
theorem binII_eq (op : BinOp) (k k' : IntKind) (a b : Int) : binII op k k' a b = binA op (.int k a) (.int k' b) := by
  have key : (bif Nat.beq (kN k) (kN k') then binInt op k a b else none) = if k = k' then binInt op k a b else none := by
    rw [kN_eq]
    by_cases h : k = k'
    · rw [decide_eq_true h, if_pos h]; rfl
    · rw [decide_eq_false h, if_neg h]; rfl
  unfold binII
  rw [binIF_eq, key]
  cases op <;> simp only [shF, binA, wrapF_eq]
theorem binAF_eq (op : BinOp) (x y : AV) : binAF op x y = binA op x y := by
  cases x <;> cases y <;> first
    | exact binII_eq _ _ _ _ _
    | exact binSF_eq _ _ _
    | rfl
noncomputable def getF (l : List AV) : Nat → AV := List.rec (motive := fun _ => Nat → AV) (fun _ => undefA) (fun x _ ih n => Nat.rec (motive := fun _ => AV) x (fun m _ => ih m) n) l
theorem getF_eq : ∀ (l : List AV) (n : Nat), getF l n = getT l n
  | [], n => by simp [getF, getT]
  | x :: l, 0 => by show x = _; simp [getT]
  | x :: l, n + 1 => by show getF l n = _; rw [getF_eq l n]; simp [getT]
noncomputable def opF : Opnd → Env → List AV → AV
  | .tmp n => fun _ t => getF t n
  | .const v => fun _ _ => v
  | .glob g => fun E _ => match E.glob g with | some cs => .sp cs | none => undefA
theorem opF_eq (E : Env) (s : St) : (fun x => opF x E s.tmps) = s.eval E := by
  funext x
  cases x
  · simp [opF, St.eval, getF_eq]
  · rfl
  · rfl
noncomputable def setK {β : Type} (l : List AV) : Nat → AV → (List AV → β) → β := List.rec (motive := fun _ => Nat → AV → (List AV → β) → β) (fun _ _ k => k []) (fun x l ih n => Nat.rec (motive := fun _ => AV → (List AV → β) → β) (fun v k => k (v :: l)) (fun m _ v k => ih m v fun l' => k (x :: l')) n) l
theorem setK_eq {β : Type} : ∀ (l : List AV) (n : Nat) (v : AV) (k : List AV → β), setK l n v k = k (l.set n v)
  | [], _, _, _ => rfl
  | _ :: _, 0, _, _ => rfl
  | x :: l, n + 1, v, k => by show setK l n v (fun l' => k (x :: l')) = _; rw [setK_eq l n]; rfl
noncomputable def layK {α β : Type} (l : List α) : (List α → β) → β := List.rec (motive := fun _ => (List α → β) → β) (fun k => k []) (fun x _ ih k => ih fun l' => k (x :: l')) l
theorem layK_eq {α β : Type} : ∀ (l : List α) (k : List α → β), layK l k = k l
  | [], k => rfl
  | x :: l, k => by show layK l (fun l' => k (x :: l')) = _; rw [layK_eq l]
noncomputable def mapMF {α β : Type} (f : α → Option β) (l : List α) : Option (List β) := List.rec (motive := fun _ => Option (List β)) (some []) (fun x _ ih => Option.rec (motive := fun _ => Option (List β)) none (fun y => Option.rec (motive := fun _ => Option (List β)) none (fun r => some (y :: r)) ih) (f x)) l
theorem mapMF_cons {α β : Type} (f : α → Option β) (x : α) (l : List α) : mapMF f (x :: l) = (match f x with
    | none => none
    | some y => match mapMF f l with
      | none => none
      | some r => some (y :: r)) := by
  show Option.rec (motive := fun _ => Option (List β)) none (fun y => Option.rec (motive := fun _ => Option (List β)) none (fun r => some (y :: r)) (mapMF f l)) (f x) = _
  cases f x with
  | none => rfl
  | some y => cases mapMF f l <;> rfl
noncomputable def mapO {α β : Type} (f : α → β) (l : List α) : List β := List.rec (motive := fun _ => List β) [] (fun x _ ih => f x :: ih) l
theorem mapO_eq {α β : Type} (f : α → β) : ∀ (l : List α), mapO f l = l.map f
  | [] => rfl
  | x :: l => by show f x :: mapO f l = _; rw [mapO_eq f l]; rfl
noncomputable def getBF (H : Heap) : Nat → Option Blk := List.rec (motive := fun _ => Nat → Option Blk) (fun _ => none) (fun x _ ih n => Nat.rec (motive := fun _ => Option Blk) x (fun m _ => ih m) n) H
theorem getBF_eq : ∀ (H : Heap) (n : Nat), getBF H n = getB H n
  | [], n => by cases n <;> rfl
  | x :: l, 0 => rfl
  | x :: l, n + 1 => getBF_eq l n
noncomputable def padF (n : Nat) (x : Option Blk) : Heap := Nat.rec (motive := fun _ => Heap) [x] (fun _ ih => none :: ih) n
theorem padF_eq (x : Option Blk) : ∀ n, padF n x = setB [] n x
  | 0 => rfl
  | n + 1 => by show none :: padF n x = none :: setB [] n x; rw [padF_eq x n]
noncomputable def setBF (H : Heap) : Nat → Option Blk → Heap := List.rec (motive := fun _ => Nat → Option Blk → Heap) (fun n x => padF n x) (fun h t ih n => Nat.rec (motive := fun _ => Option Blk → Heap) (fun x => x :: t) (fun m _ x => h :: ih m x) n) H
theorem setBF_eq : ∀ (H : Heap) (n : Nat) (x : Option Blk), setBF H n x = setB H n x
  | [], n, x => padF_eq x n
  | h :: t, 0, x => rfl
  | h :: t, n + 1, x => by show h :: setBF t n x = h :: setB t n x; rw [setBF_eq t n x]
noncomputable def dropF {α : Type} (l : List α) : Nat → List α := List.rec (motive := fun _ => Nat → List α) (fun _ => []) (fun x t ih n => Nat.rec (motive := fun _ => List α) (x :: t) (fun m _ => ih m) n) l
theorem dropF_eq {α : Type} : ∀ (l : List α) (n : Nat), dropF l n = l.drop n
  | [], n => by simp [dropF]
  | x :: l, 0 => rfl
  | x :: l, n + 1 => by show dropF l n = _; rw [dropF_eq l n]; rfl
noncomputable def takeF {α : Type} (l : List α) : Nat → List α := List.rec (motive := fun _ => Nat → List α) (fun _ => []) (fun x _ ih n => Nat.rec (motive := fun _ => List α) [] (fun m _ => x :: ih m) n) l
theorem takeF_eq {α : Type} : ∀ (l : List α) (n : Nat), takeF l n = l.take n
  | [], n => by simp [takeF]
  | x :: l, 0 => rfl
  | x :: l, n + 1 => by show x :: takeF l n = _; rw [takeF_eq l n]; rfl
noncomputable def appF {α : Type} (l m : List α) : List α := List.rec (motive := fun _ => List α) m (fun x _ ih => x :: ih) l
theorem appF_eq {α : Type} : ∀ (l m : List α), appF l m = l ++ m
  | [], m => rfl
  | x :: l, m => by show x :: appF l m = _; rw [appF_eq l m]; rfl
noncomputable def lenF {α : Type} (l : List α) : Nat := List.rec (motive := fun _ => Nat) 0 (fun _ _ ih => Nat.succ ih) l
theorem lenF_eq {α : Type} : ∀ (l : List α), lenF l = l.length
  | [] => rfl
  | x :: l => by show Nat.succ (lenF l) = _; rw [lenF_eq l]; rfl
noncomputable def flatF (l : List AV) : Bool := List.rec (motive := fun _ => Bool) true (fun x _ ih => bif x.flat then ih else false) l
theorem flatF_eq : ∀ (l : List AV), flatF l = flatL l
  | [] => rfl
  | x :: l => by
    show (bif x.flat then flatF l else false) = _
    rw [flatF_eq l]; unfold flatL; rw [List.all_cons]; cases x.flat <;> rfl
theorem mapMF_eq {α β : Type} (f : α → Option β) : ∀ (l : List α), mapMF f l = l.mapM f
  | [] => rfl
  | x :: l => by
    rw [mapMF_cons, mapMF_eq f l, List.mapM_cons]
    cases f x with
    | none => rfl
    | some y => cases l.mapM f <;> rfl
noncomputable def frzS : AV → Heap → (AV → Option AV) → Option AV
  | .bool b => fun _ _ => some (.bool b)
  | .int k n => fun _ _ => some (.int k n)
  | .str s => fun _ _ => some (.str s)
  | .nilp => fun _ _ => some .nilp
  | .ptr b off => fun H r => match getBF H b with
      | some (.cells _ _ cs) => (mapMF r (dropF cs off)).map .sp
      | _ => none
  | .sp cs => fun _ _ => some (.sp cs)
  | .nils => fun _ _ => some (.row 0 [])
  | .sl b off len => fun H r => match getBF H b with
      | some (.cells _ sz cs) => if off + len * sz ≤ lenF cs then (mapMF r (takeF (dropF cs off) (len * sz))).map (.row len) else none
      | _ => none
  | .row n cs => fun _ _ => some (.row n cs)
  | .nilm => fun _ _ => some .nilm
  | .map b => fun H r => match getBF H b with
      | some (.map ks vs) => match mapMF r ks, mapMF r vs with
        | some ks', some vs' => some (.fmap ks' vs')
        | _, _ => none
      | _ => none
  | .fmap a b => fun _ _ => some (.fmap a b)
  | .nilf => fun _ _ => some .nilf
  | .func f first caps => fun _ r => match mapMF r first, mapMF r caps with
      | some a, some b => some (.func f a b)
      | _, _ => none
  | .nili => fun _ _ => some .nili
  | .iface t x => fun _ r => (r x).map (.iface t)
  | .agg cs => fun _ r => (mapMF r cs).map .agg
  | .tuple cs => fun _ r => (mapMF r cs).map .tuple
  | .dead => fun _ _ => none
noncomputable def frzF (H : Heap) : Nat → AV → Option AV
  | 0, _ => none
  | n + 1, v => frzS v H (frzF H n)
theorem frzF_eq (H : Heap) : ∀ n, frzF H n = frz H n
  | 0 => rfl
  | n + 1 => by
    funext v
    rw [frzF, frzF_eq H n]
    cases v <;> simp only [frzS, frz, mapMF_eq, getBF_eq, takeF_eq, dropF_eq, lenF_eq] <;> rfl
noncomputable def tchS : AV → Heap → (AV → List Nat) → List Nat
  | .bool b => fun _ _ => []
  | .int k n => fun _ _ => []
  | .str s => fun _ _ => []
  | .nilp => fun _ _ => []
  | .ptr b off => fun H r => b :: match getB H b with
      | some (.cells _ _ cs) => (cs.drop off).flatMap r
      | _ => []
  | .sp cs => fun _ _ => []
  | .nils => fun _ _ => []
  | .sl b off len => fun H r => b :: match getB H b with
      | some (.cells _ sz cs) => ((cs.drop off).take (len * sz)).flatMap r
      | _ => []
  | .row n cs => fun _ _ => []
  | .nilm => fun _ _ => []
  | .map b => fun H r => b :: match getB H b with
      | some (.map ks vs) => ks.flatMap r ++ vs.flatMap r
      | _ => []
  | .fmap a b => fun _ _ => []
  | .nilf => fun _ _ => []
  | .func f first caps => fun _ r => first.flatMap r ++ caps.flatMap r
  | .nili => fun _ _ => []
  | .iface t x => fun _ r => r x
  | .agg cs => fun _ r => cs.flatMap r
  | .tuple cs => fun _ r => cs.flatMap r
  | .dead => fun _ _ => []
noncomputable def tchF (H : Heap) : Nat → AV → List Nat
  | 0, _ => []
  | n + 1, v => tchS v H (tchF H n)
theorem tchF_eq (H : Heap) : ∀ n, tchF H n = tch H n
  | 0 => rfl
  | n + 1 => by
    funext v
    rw [tchF, tchF_eq H n]
    cases v <;> rfl
noncomputable def iF : Insn → (Opnd → AV) → List Nat → Nat → Heap → Out
  | .mov x => fun ρ fz nx H => some (ρ x, H, nx)
  | .pick c a b => fun ρ fz nx H => match ρ c with
    | .bool t => some (if t then ρ a else ρ b, H, nx)
    | _ => none
  | .alloc elem sz zero => fun ρ fz nx H => some (.ptr nx 0, setBF H nx (some (.cells elem sz zero)), nx + 1)
  | .box elem sz x => fun ρ fz nx H => if flatL (ρ x).cells then some (.ptr nx 0, setBF H nx (some (.cells elem sz (ρ x).cells)), nx + 1) else none
  | .build zero parts => fun ρ fz nx H => .pure H nx ((fillA zero (parts.map fun (o, s, x) => (o, s, ρ x))).map .agg)
  | .bslice elem sz len zero parts => fun ρ fz nx H =>
    match fillA (repeatA zero len) (parts.map fun (o, s, x) => (o, s, ρ x)) with
    | some cs => if flatL cs then some (.sl nx 0 len, setBF H nx (some (.cells elem sz cs)), nx + 1) else none
    | none => none
  | .load agg n a => fun ρ fz nx H => match cellsAt H (ρ a) with
    | some cs => .pure H nx (partA agg cs 0 n)
    | none => none
  | .store n a x => fun ρ fz nx H => match ρ a with
    | .ptr b off => match getBF H b with
      | some (.cells e s cs) =>
        if (ρ x).cells.length = n ∧ off + n ≤ cs.length ∧ fz.contains b = false ∧ flatL (ρ x).cells then layK (appF (takeF cs off) (appF (ρ x).cells (dropF cs (off + n)))) fun cs => some (undefA, setBF H b (some (.cells e s cs)), nx) else none
      | _ => none
    | _ => none
  | .nilchk x => fun ρ fz nx H => match ρ x with
    | .ptr b o => some (.ptr b o, H, nx)
    | .sp cs => some (.sp cs, H, nx)
    | .func f a b => some (.func f a b, H, nx)
    | _ => none
  | .bin op x y => fun ρ fz nx H => .pure H nx (binAF op (ρ x) (ρ y))
  | .eqnil kind neg x => fun ρ fz nx H => .pure H nx ((eqnilA kind (ρ x)).map fun b => .bool (if neg then !b else b))
  | .eqbool neg x y => fun ρ fz nx H => match ρ x, ρ y with
    | .bool a, .bool b => some (.bool (if neg then !(a == b) else a == b), H, nx)
    | _, _ => none
  | .eqagg neg x y => fun ρ fz nx H => match ρ x, ρ y with
    | .agg xs, .agg ys => .pure H nx ((eqcells xs ys).map fun b => .bool (if neg then !b else b))
    | _, _ => none
  | .un op x => fun ρ fz nx H => .pure H nx (unA op (ρ x))
  | .conv k x => fun ρ fz nx H => match k, ρ x with
    | .toInt k, .int _ n => some (.int k (wrapF k n), H, nx)
    | .same, .str s => some (.str s, H, nx)
    | .toBytes _, .str s => some (.row s.length (bytesA s), H, nx)
    | .toStr, v => match rowOf H 1 v with
      | some cs => .pure H nx ((strOfA cs).map .str)
      | none => none
    | _, _ => none
  | .mkif t x => fun ρ fz nx H => some (.iface t (ρ x), H, nx)
  | .mkfn f first caps => fun ρ fz nx H => some (.func f (first.map ρ) (caps.map ρ), H, nx)
  | .mkmap => fun ρ fz nx H => some (.map nx, setBF H nx (some (.map [] [])), nx + 1)
  | .mkslice elem sz bytes zero l c => fun ρ fz nx H => match ρ l, ρ c with
    | .int _ l, .int _ c =>
      if 0 ≤ l ∧ l ≤ c ∧ c * bytes ≤ room ∧ c ≤ 9223372036854775807 then some (.sl nx 0 l.toNat, setBF H nx (some (.cells elem sz (repeatA zero c.toNat))), nx + 1) else none
    | _, _ => none
  | .slice str sz x lo hi => fun ρ fz nx H =>
    let bound (o : Option Opnd) (d : Int) : Option Int := match o with | some y => idx (ρ y) | none => some d
    match str, ρ x with
    | true, .str s => match bound lo 0, bound hi s.length with
      | some l, some h => if 0 ≤ l ∧ l ≤ h ∧ h ≤ s.length then some (.str ((s.drop l.toNat).take (h.toNat - l.toNat)), H, nx) else none
      | _, _ => none
    | false, .nils => match bound lo 0, bound hi 0 with
      | some l, some h => if l = 0 ∧ h = 0 then some (.nils, H, nx) else none
      | _, _ => none
    | false, .row n cs => match bound lo 0, bound hi n with
      | some l, some h => if 0 ≤ l ∧ l ≤ h ∧ h ≤ n then some (.row (h.toNat - l.toNat) ((cs.drop (l.toNat * sz)).take ((h.toNat - l.toNat) * sz)), H, nx) else none
      | _, _ => none
    | false, .sl b off n => match bound lo 0, bound hi n with
      | some l, some h => if 0 ≤ l ∧ l ≤ h ∧ h ≤ n ∧ sizeB H b = some sz then some (if h = l ∧ l ≠ 0 then .row 0 [] else .sl b (off + l.toNat * sz) (h.toNat - l.toNat), H, nx) else none
      | _, _ => none
    | _, _ => none
  | .faddr off x => fun ρ fz nx H => match ρ x with
    | .ptr b o => some (.ptr b (o + off), H, nx)
    | .sp cs => if off ≤ cs.length then some (.sp (dropF cs off), H, nx) else none
    | _ => none
  | .field agg off n x => fun ρ fz nx H => match ρ x with
    | .agg cs => .pure H nx (partA agg cs off n)
    | _ => none
  | .iaddr sz x i => fun ρ fz nx H => match ρ x, idx (ρ i) with
    | .row n cs, some i => if 0 ≤ i ∧ i < n then some (.sp (dropF cs (i.toNat * sz)), H, nx) else none
    | .sl b off n, some i => if 0 ≤ i ∧ i < n then some (.ptr b (off + i.toNat * sz), H, nx) else none
    | _, _ => none
  | .iaddra len sz x i => fun ρ fz nx H => match ρ x, idx (ρ i) with
    | .ptr b o, some i => if 0 ≤ i ∧ i < len then some (.ptr b (o + i.toNat * sz), H, nx) else none
    | .sp cs, some i => if 0 ≤ i ∧ i < len then some (.sp (dropF cs (i.toNat * sz)), H, nx) else none
    | _, _ => none
  | .index x i => fun ρ fz nx H => match ρ x, idx (ρ i) with
    | .str s, some i => if 0 ≤ i then (match s[i.toNat]? with | some b => some (.int .u8 b.toNat, H, nx) | none => none) else none
    | _, _ => none
  | .indexa agg sz len x i => fun ρ fz nx H => match ρ x, idx (ρ i) with
    | .agg cs, some i => if 0 ≤ i ∧ i < len then .pure H nx (partA agg cs (i.toNat * sz) sz) else none
    | _, _ => none
  | .lookup kind zero ok x k => fun ρ fz nx H =>
    let es : Option (List AV × List AV) := match ρ x with
      | .nilm => some ([], [])
      | .fmap ks vs => some (ks, vs)
      | .map b => match getBF H b with
        | some (.map ks vs) => some (ks, vs)
        | _ => none
      | _ => none
    match es with
    | some (ks, vs) => match (if iskey kind (ρ k) then findA kind (ρ k) ks vs else none) with
      | some r =>
        let v := match r with | some (_, v) => v | none => zero
        some (if ok then .tuple [v, .bool r.isSome] else v, H, nx)
      | none => none
    | none => none
  | .insert kind m k v => fun ρ fz nx H => match ρ m with
    | .map b => match getBF H b with
      | some (.map ks vs) => match (if fz.contains b = false ∧ iskey kind (ρ k) = true then findA kind (ρ k) ks vs else none) with
        | some (some (i, _)) => some (undefA, setBF H b (some (.map ks (vs.set i (ρ v)))), nx)
        | some none => some (undefA, setBF H b (some (.map (ks ++ [ρ k]) (vs ++ [ρ v]))), nx)
        | none => none
      | _ => none
    | _ => none
  | .tassert t ok zero x => fun ρ fz nx H => match ρ x with
    | .iface u v => if u = t then some (if ok then .tuple [v, .bool true] else v, H, nx) else if ok then some (.tuple [zero, .bool false], H, nx) else none
    | .nili => if ok then some (.tuple [zero, .bool false], H, nx) else none
    | _ => none
  | .extract x i => fun ρ fz nx H => match ρ x with
    | .tuple vs => .pure H nx vs[i]?
    | _ => none
  | .len kind x => fun ρ fz nx H => match kind, ρ x with
    | 0, .str s => some (.int .i64 s.length, H, nx)
    | 1, .nils => some (.int .i64 0, H, nx)
    | 1, .row n _ => some (.int .i64 n, H, nx)
    | 1, .sl _ _ n => some (.int .i64 n, H, nx)
    | 2, .nilm => some (.int .i64 0, H, nx)
    | 2, .fmap ks _ => some (.int .i64 ks.length, H, nx)
    | 2, .map b => match getBF H b with
      | some (.map ks _) => some (.int .i64 ks.length, H, nx)
      | _ => none
    | _, _ => none
  | .cap x => fun ρ fz nx H => match ρ x with
    | .nils => some (.int .i64 0, H, nx)
    | _ => none
  | .append elem sz bytes s x => fun ρ fz nx H => match ρ x with
    | .str t => if sz = 1 then appendA fz nx H elem sz bytes (ρ s) (bytesA t) t.length else none
    | v => match rowOf H sz v with
      | some cs => appendA fz nx H elem sz bytes (ρ s) cs (lenA v)
      | none => none
  | .appendz elem sz bytes zero s x => fun ρ fz nx H => match ρ x with
    | .int .i64 n => if 0 ≤ n ∧ n * bytes ≤ room ∧ n ≤ 9223372036854775807 then appendA fz nx H elem sz bytes (ρ s) (repeatA zero n.toNat) n.toNat else none
    | _ => none
  | .copy sz d s => fun ρ fz nx H => match ρ d with
    | .sl b off len => match getBF H b, srcA H sz (ρ s) with
      | some (.cells e s' cs), some src =>
        if s' = sz ∧ 0 < sz ∧ off + len * sz ≤ cs.length ∧ fz.contains b = false then
          let m := min (src.length / sz) len
          some (.int .i64 m, setBF H b (some (.cells e s' (cs.take off ++ src.take (m * sz) ++ cs.drop (off + m * sz)))), nx)
        else none
      | _, _ => none
    | _ => none
  | .minmax mx xs => fun ρ fz nx H => match xs.map ρ with
    | x :: r => .pure H nx (foldMM mx x r)
    | [] => none
  | .panic x => fun _ _ _ _ => none
  | .callf f args => fun _ _ _ _ => none
  | .callv x args => fun _ _ _ _ => none
  | .defer x args => fun _ _ _ _ => none
  | .recover => fun _ _ _ _ => none
theorem iF_eq (i : Insn) (ρ : Opnd → AV) (fz : List Nat) (nx : Nat) (H : Heap) : iF i ρ fz nx H = evalI ρ fz nx H i := by
  cases i <;> first
    | rfl
    | (simp only [iF, evalI, binAF_eq, wrapF_eq, layK_eq, getBF_eq, setBF_eq, takeF_eq, dropF_eq, appF_eq, ← List.append_assoc]; done)
    | (simp only [iF, evalI, binAF_eq, wrapF_eq, layK_eq, getBF_eq, setBF_eq, takeF_eq, dropF_eq, appF_eq, ← List.append_assoc]; rfl)
noncomputable def valK {β : Type} : AV → (AV → β) → β
  | .bool b => fun k => k (.bool b)
  | .int i n => fun k => k (.int i n)
  | .str s => fun k => layK s fun s => k (.str s)
  | .nilp => fun k => k .nilp
  | .ptr b o => fun k => k (.ptr b o)
  | .sp cs => fun k => k (.sp cs)
  | .nils => fun k => k .nils
  | .sl b o n => fun k => k (.sl b o n)
  | .row n cs => fun k => layK cs fun cs => k (.row n cs)
  | .nilm => fun k => k .nilm
  | .map b => fun k => k (.map b)
  | .fmap a b => fun k => k (.fmap a b)
  | .nilf => fun k => k .nilf
  | .func f a b => fun k => layK a fun a => layK b fun b => k (.func f a b)
  | .nili => fun k => k .nili
  | .iface t x => fun k => k (.iface t x)
  | .agg cs => fun k => layK cs fun cs => k (.agg cs)
  | .tuple cs => fun k => layK cs fun cs => k (.tuple cs)
  | .dead => fun k => k .dead
theorem valK_eq {β : Type} (v : AV) (k : AV → β) : valK v k = k v := by cases v <;> simp only [valK, layK_eq]
noncomputable def blkK {β : Type} : Option Blk → (Option Blk → β) → β
  | none => fun k => k none
  | some (.cells e s cs) => fun k => layK cs fun cs => k (some (.cells e s cs))
  | some (.map a b) => fun k => layK a fun a => layK b fun b => k (some (.map a b))
theorem blkK_eq {β : Type} (b : Option Blk) (k : Option Blk → β) : blkK b k = k b := by
  rcases b with _ | b
  · rfl
  · cases b <;> simp only [blkK, layK_eq]
noncomputable def heapK {β : Type} (H : Heap) : (Heap → β) → β := List.rec (motive := fun _ => (Heap → β) → β) (fun k => k []) (fun x _ ih k => blkK x fun x => ih fun l => k (x :: l)) H
theorem heapK_eq {β : Type} : ∀ (l : Heap) (k : Heap → β), heapK l k = k l
  | [], k => rfl
  | x :: l, k => by show blkK x (fun x => heapK l fun l => k (x :: l)) = _; rw [blkK_eq, heapK_eq l]
def natK {β : Type} : Nat → (Nat → β) → β
  | 0 => fun k => k 0
  | m + 1 => fun k => k (m + 1)
theorem natK_eq {β : Type} (n : Nat) (k : Nat → β) : natK n k = k n := by cases n <;> rfl
noncomputable def putK (t : List AV) (H : Heap) (nx : Nat) (fz : List Nat) (ds : List (FuncId × List AV)) (r : Bool) (x : Ex) : Option Nat → AV → Option (Ex × St)
  | none, _ => some (x, ⟨t, H, nx, fz, ds, r⟩)
  | some d, v => valK v fun v => setK t d v fun t => some (x, ⟨t, H, nx, fz, ds, r⟩)
theorem putK_eq (t : List AV) (H : Heap) (nx : Nat) (fz : List Nat) (ds : List (FuncId × List AV)) (r : Bool) (x : Ex) (d : Option Nat) (v : AV) : putK t H nx fz ds r x d v = some (x, St.put ⟨t, H, nx, fz, ds, r⟩ d v) := by
  cases d
  · rfl
  · simp only [putK, valK_eq, setK_eq]; rfl
abbrev OpS := Env → CallT → Option (Option AV) → Option Nat → St → Option (Ex × St)
noncomputable def plainQ (i : Insn) : OpS := fun E _ _ d s => match s with
  | ⟨t, H, nx, fz, ds, r⟩ => match iF i (fun x => opF x E t) fz nx H with
    | some (v, H, nx) => putK t H nx fz ds r .normal d v
    | none => none
noncomputable def plainW (i : Insn) : OpS := fun E _ _ d s => match s with
  | ⟨t, H, nx, fz, ds, r⟩ => match iF i (fun x => opF x E t) fz nx H with
    | some (v, H, nx) => layK H fun H => natK nx fun nx => putK t H nx fz ds r .normal d v
    | none => none
def hbackF (T : List Nat) (H : Heap) (nx : Nat) (fz : List Nat) : Option Back → Option Back
  | some b => if nx ≤ b.nx then some ⟨b.res, merge T nx b.nx H b.H, b.nx, b.fz.filter (fun x => T.contains x || (decide (nx ≤ x) && decide (x < b.nx))) ++ fz, b.recd⟩ else none
  | none => none
noncomputable def callF (E : Env) (call : CallT) (f : FuncId) (args : List AV) (H : Heap) (nx : Nat) (fz : List Nat) : Option Back :=
  layK (args.flatMap (tchF H (depthOf nx))) fun T =>
  match E.hprim f with
  | some g => hback T H nx fz (g args (restrict H T) nx (T.filter fun b => fz.contains b))
  | none =>
  match E.prim f with
  | some g => match mapMF (frzF H (depthOf nx)) args with
    | some a => match g a with
      | some v => pback T H nx fz .ret v
      | none => none
    | none => none
  | none =>
  match E.code f with
  | none => none
  | some fn =>
    if fn.heap then hback T H nx fz (call f args (restrict H T) nx (T.filter fun b => fz.contains b) none)
    else
      match mapMF (frzF H (depthOf nx)) args with
      | some a => match call f a [] 0 [] none with
        | some b => match b.res with
          | .ret v => match frzF b.H (depthOf b.nx) v with
            | some v => pback T H nx fz .ret v
            | none => none
          | .panic v => match frzF b.H (depthOf b.nx) v with
            | some v => pback T H nx fz .panic v
            | none => none
        | none => none
      | none => none
theorem callF_eq : callF = callA := by
  funext E call f args H nx fz
  simp only [callF, callA, layK_eq, tchF_eq, frzF_eq, mapMF_eq]
  rfl
noncomputable def backF (d : Option Nat) (t : List AV) (ds : List (FuncId × List AV)) (r : Bool) : Option Back → Option (Ex × St)
  | none => none
  | some ⟨res, H, nx, fz, _⟩ => layK H fun H => natK nx fun nx => layK fz fun fz => match res with
    | .ret v => putK t H nx fz ds r .normal d v
    | .panic v => valK v fun v => some (.panic v, ⟨t, H, nx, fz, ds, r⟩)
noncomputable def doCallf (f : FuncId) (args : List Opnd) : OpS := fun E call _ d s => match s with
  | ⟨t, H, nx, fz, ds, r⟩ => layK (mapO (fun x => opF x E t) args) fun a => backF d t ds r (callF E call f a H nx fz)
noncomputable def doCallv (x : Opnd) (args : List Opnd) : OpS := fun E call _ d s => match s with
  | ⟨t, H, nx, fz, ds, r⟩ => match opF x E t with
    | .func f first caps => layK (first ++ (mapO (fun x => opF x E t) args) ++ caps) fun a => backF d t ds r (callF E call f a H nx fz)
    | _ => none
noncomputable def doPanic (x : Opnd) : OpS := fun E _ _ _ s => match opF x E s.tmps with
  | .iface t v => some (.panic (.iface t v), s)
  | _ => none
noncomputable def doDefer (x : Opnd) (args : List Opnd) : OpS := fun E _ _ d s => match s with
  | ⟨t, H, nx, fz, ds, r⟩ => match opF x E t with
    | .func f first caps => layK (first ++ (mapO (fun x => opF x E t) args) ++ caps) fun a => putK t H nx fz ((f, a) :: ds) r .normal d undefA
    | _ => none
noncomputable def doRecover : OpS := fun _ _ pan d s => match pan, s.recd with
  | some (some v), false => some (.normal, { s with recd := true }.put d v)
  | some _, _ => some (.normal, s.put d .nili)
  | none, _ => none
noncomputable def opS : Insn → OpS
  | .mov x => plainQ (.mov x)
  | .pick c a b => plainQ (.pick c a b)
  | .alloc elem sz zero => plainW (.alloc elem sz zero)
  | .box elem sz x => plainW (.box elem sz x)
  | .build zero parts => plainQ (.build zero parts)
  | .bslice elem sz len zero parts => plainW (.bslice elem sz len zero parts)
  | .load agg n a => plainQ (.load agg n a)
  | .store n a x => plainW (.store n a x)
  | .nilchk x => plainQ (.nilchk x)
  | .bin op x y => plainQ (.bin op x y)
  | .eqnil kind neg x => plainQ (.eqnil kind neg x)
  | .eqbool neg x y => plainQ (.eqbool neg x y)
  | .eqagg neg x y => plainQ (.eqagg neg x y)
  | .un op x => plainQ (.un op x)
  | .conv k x => plainQ (.conv k x)
  | .mkif t x => plainQ (.mkif t x)
  | .mkfn f first caps => plainQ (.mkfn f first caps)
  | .mkmap => plainW (.mkmap)
  | .mkslice elem sz bytes zero l c => plainW (.mkslice elem sz bytes zero l c)
  | .slice str sz x lo hi => plainQ (.slice str sz x lo hi)
  | .faddr off x => plainQ (.faddr off x)
  | .field agg off n x => plainQ (.field agg off n x)
  | .iaddr sz x i => plainQ (.iaddr sz x i)
  | .iaddra len sz x i => plainQ (.iaddra len sz x i)
  | .index x i => plainQ (.index x i)
  | .indexa agg sz len x i => plainQ (.indexa agg sz len x i)
  | .lookup kind zero ok x k => plainQ (.lookup kind zero ok x k)
  | .insert kind m k v => plainW (.insert kind m k v)
  | .tassert t ok zero x => plainQ (.tassert t ok zero x)
  | .extract x i => plainQ (.extract x i)
  | .len kind x => plainQ (.len kind x)
  | .cap x => plainQ (.cap x)
  | .append elem sz bytes s x => plainW (.append elem sz bytes s x)
  | .appendz elem sz bytes zero s x => plainW (.appendz elem sz bytes zero s x)
  | .copy sz d s => plainW (.copy sz d s)
  | .minmax mx xs => plainQ (.minmax mx xs)
  | .callf f args => doCallf f args
  | .callv x args => doCallv x args
  | .panic x => doPanic x
  | .defer x args => doDefer x args
  | .recover => doRecover
noncomputable def opG : AOp → Env → CallT → Option (Option AV) → St → Option (Ex × St)
  | ⟨d, none, i⟩ => fun E call pan s => opS i E call pan d s
  | ⟨d, some (t, b), i⟩ => fun E call pan s => match getF s.tmps t with
    | .bool c => if c == b then opS i E call pan d s else some (.normal, s.put d undefA)
    | .dead => none
    | _ => some (.normal, s.put d undefA)
theorem opS_eq (d : Option Nat) (i : Insn) (E : Env) (call : CallT) (pan : Option (Option AV)) (s : St) : opS i E call pan d s = evalOp E call pan ⟨d, none, i⟩ s := by
  obtain ⟨t, H, nx, fz, ds, r⟩ := s
  have hρ : (fun x => opF x E t) = St.eval E ⟨t, H, nx, fz, ds, r⟩ := opF_eq E ⟨t, H, nx, fz, ds, r⟩
  have hx : ∀ x, opF x E t = St.eval E ⟨t, H, nx, fz, ds, r⟩ x := fun x => congrFun hρ x
  have key : ∀ j, (∀ o, plainQ j E call pan o ⟨t, H, nx, fz, ds, r⟩ = (match evalI (St.eval E ⟨t, H, nx, fz, ds, r⟩) fz nx H j with
      | some (v, H, nx) => some (.normal, St.put ⟨t, H, nx, fz, ds, r⟩ o v)
      | none => none)) ∧ (∀ o, plainW j E call pan o ⟨t, H, nx, fz, ds, r⟩ = (match evalI (St.eval E ⟨t, H, nx, fz, ds, r⟩) fz nx H j with
      | some (v, H, nx) => some (.normal, St.put ⟨t, H, nx, fz, ds, r⟩ o v)
      | none => none)) := fun j => by
    constructor <;> intro o <;> simp only [plainQ, plainW, hρ, iF_eq, layK_eq, natK_eq, putK_eq] <;> rfl
  have kb : ∀ (a : List AV) f, backF d t ds r (callF E call f a H nx fz) = (match callA E call f a H nx fz with
      | some b => match b.res with
        | .ret v => some (.normal, St.put ⟨t, b.H, b.nx, b.fz, ds, r⟩ d v)
        | .panic v => some (.panic v, ⟨t, b.H, b.nx, b.fz, ds, r⟩)
      | none => none) := fun a f => by
    rw [callF_eq]
    cases callA E call f a H nx fz with
    | none => rfl
    | some b =>
      obtain ⟨res, H', nx', fz', q⟩ := b
      simp only [backF, natK_eq, layK_eq]
      cases res
      · simp only [putK_eq]
      · simp only [valK_eq]
  cases i
  case callf f args =>
    simp only [opS, doCallf, layK_eq, kb, hx, mapO_eq]
    rfl
  case callv x args =>
    simp only [opS, doCallv, layK_eq, kb, hx, mapO_eq]
    rfl
  case panic x => simp only [opS, doPanic, hx]; rfl
  case defer x args =>
    simp only [opS, doDefer, layK_eq, putK_eq, hx, mapO_eq]
    rfl
  case recover => rfl
  all_goals first
    | exact ((key _).1 d).trans rfl
    | exact ((key _).2 d).trans rfl
    | (simp only [opS, (key _).1, (key _).2, evalOp, wantedA]; done)
    | (simp only [opS, (key _).1, (key _).2, evalOp, wantedA]; rfl)
theorem opG_eq (o : AOp) (E : Env) (call : CallT) (pan : Option (Option AV)) (s : St) : opG o E call pan s = evalOp E call pan o s := by
  obtain ⟨d, g, i⟩ := o
  cases g with
  | none => exact opS_eq d i E call pan s
  | some g =>
    obtain ⟨t, b⟩ := g
    simp only [opG, getF_eq, opS_eq]
    cases hg : getT s.tmps t with
    | bool c =>
      simp only
      have hw : wantedA s (some (t, b)) = some (c == b) := by simp only [wantedA, hg]
      cases hcb : (c == b) with
      | true =>
        rw [hcb] at hw
        rw [if_pos rfl]
        simp only [evalOp, hw]
        simp only [wantedA]
      | false =>
        rw [hcb] at hw
        rw [if_neg (by simp)]
        simp only [evalOp, hw]
    | dead =>
      have hw : wantedA s (some (t, b)) = none := by simp only [wantedA, hg]
      simp only [evalOp, hw]
    | _ =>
      have hw : wantedA s (some (t, b)) = some false := by simp only [wantedA, hg]
      simp only [evalOp, hw]
def goOn (k : St → Option (Ex × St)) : Option (Ex × St) → Option (Ex × St)
  | some (.normal, s') => k s'
  | x => x
noncomputable def opsF (E : Env) (call : CallT) (pan : Option (Option AV)) (l : List AOp) : St → Option (Ex × St) := List.rec (motive := fun _ => St → Option (Ex × St)) (fun s => some (.normal, s)) (fun o _ ih s => goOn ih (opG o E call pan s)) l
theorem opsF_eq {E : Env} {call : CallT} {pan : Option (Option AV)} : ∀ (l : List AOp) (s : St), opsF E call pan l s = evalOps E call pan l s
  | [], s => rfl
  | o :: r, s => by
    show goOn (opsF E call pan r) (opG o E call pan s) = _
    have : opsF E call pan r = evalOps E call pan r := funext (opsF_eq r)
    rw [this, opG_eq, evalOps]
    rfl
noncomputable def stepsF (E : Env) (call : CallT) (pan : Option (Option AV)) (d : Draw) : Nat → List AOp → St → Option (Nat × AV × St) → List Rec → Option (Option (Nat × AV × St) × St × List Rec)
  | _, [], s, p, acc => some (p, s, acc.reverse)
  | i, o :: r, s, some (k, v, t), acc =>
    if (d.free.getD k []).contains i then
      match opG o E call pan s with
      | some (.normal, s') => if newOk s s' then stepsF E call pan d (i + 1) r s' (some (k, v, t)) (recOf E o s s' :: acc) else none
      | _ => none
    else stepsF E call pan d (i + 1) r s (some (k, v, t)) (⟨false, [], []⟩ :: acc)
  | i, o :: r, s, none, acc =>
    match opG o E call pan s with
    | some (.normal, s') => if newOk s s' then stepsF E call pan d (i + 1) r s' none (recOf E o s s' :: acc) else none
    | some (.panic v, s') => if newOk s s' then stepsF E call pan d (i + 1) r s' (some (i, v, s')) (recOf E o s s' :: acc) else none
    | _ => none
theorem stepsF_eq {E : Env} {call : CallT} {pan : Option (Option AV)} {d : Draw} : ∀ (l : List AOp) (i : Nat) (s : St) (p : Option (Nat × AV × St)) (acc : List Rec), stepsF E call pan d i l s p acc = evalSteps E call pan d i l s p acc
  | [], i, s, p, acc => by cases p <;> rfl
  | o :: r, i, s, none, acc => by
    simp only [stepsF, evalSteps, opG_eq, stepsF_eq r]
    rfl
  | o :: r, i, s, some (k, v, t), acc => by
    simp only [stepsF, evalSteps, opG_eq, stepsF_eq r]
    rfl
noncomputable def drawF (E : Env) (call : CallT) (pan : Option (Option AV)) (d : Draw) (ops : List AOp) (s : St) : Option (Ex × St) :=
  match stepsF E call pan d 0 ops s none [] with
  | some (p, s', rs) =>
    if d.pairs.all fun (i, j) => apartR (rs.getD i default) (rs.getD j default) then
      match p with
      | none => some (.normal, s')
      | some (k, v, t) =>
        let W := (d.free.getD k []).flatMap fun j => (rs.getD j default).wr
        some (.panic v, { t with tmps := killT ops t.tmps, H := killB W t.H, fz := t.fz.filter (fun b => !W.contains b), nx := s'.nx })
    else none
  | none => none
theorem drawF_eq : drawF = evalDraw := by
  funext E call pan d ops s
  simp only [drawF, evalDraw, stepsF_eq]
  rfl
noncomputable def codeS : ACode → Env → CallT → Option (Option AV) → (ACode → St → Option (Ex × St)) → St → Option (Ex × St)
  | .skip => fun _ _ _ _ s => some (.normal, s)
  | .region ops none => fun E call pan _ s => opsF E call pan ops s
  | .region ops (some d) => fun E call pan _ s => drawF E call pan d ops s
  | .seq a b => fun _ _ _ rec s => match rec a s with
    | some (.normal, s') => rec b s'
    | x => x
  | .cond c a b => fun E _ _ rec s => match opF c E s.tmps with
    | .bool true => rec a s
    | .bool false => rec b s
    | _ => none
  | .block id c => fun _ _ _ rec s => match rec c s with
    | some (.exit i, s') => if i = id then some (.normal, s') else some (.exit i, s')
    | x => x
  | .loop c => fun _ _ _ rec s => match rec c s with
    | some (.normal, s') => rec (.loop c) s'
    | x => x
  | .exit id => fun _ _ _ _ s => some (.exit id, s)
  | .ret => fun _ _ _ _ s => some (.ret, s)
  | .fail => fun _ _ _ _ _ => none
noncomputable def codeF (E : Env) (call : CallT) (pan : Option (Option AV)) : Nat → ACode → St → Option (Ex × St)
  | 0, _, _ => none
  | k + 1, c, s => codeS c E call pan (codeF E call pan k) s
theorem codeF_eq {E : Env} {call : CallT} {pan : Option (Option AV)} : ∀ (k : Nat) (c : ACode) (s : St), codeF E call pan k c s = evalCode E call pan k c s := by
  intro k
  induction k with
  | zero => intro c s; rfl
  | succ k ih =>
    intro c s
    cases c with
    | region ops d => cases d <;> simp only [codeF, codeS, evalCode, opsF_eq, drawF_eq]
    | cond c a b =>
      have : opF c E s.tmps = St.eval E s c := congrFun (opF_eq E s) c
      simp only [codeF, codeS, evalCode, ih, this]
      cases St.eval E s c <;> try rfl
      rename_i t
      cases t <;> rfl
    | _ => first | (simp only [codeF, codeS, evalCode, ih]; done) | (simp only [codeF, codeS, evalCode, ih]; rfl)
noncomputable def fnF (E : Env) : Nat → CallT
  | 0, _, _, _, _, _, _ => none
  | k + 1, f, args, H, nx, fz, none => match E.code f with
    | none => none
    | some fn => layK (enterA fn args) fun t => heapK H fun H => match codeF E (fnF E k) none k fn.body ⟨t, H, nx, fz, [], false⟩ with
      | some (.normal, s) | some (.ret, s) => leaveA (fnF E k) fn.res s.tmps s.defers none s.H s.nx s.fz
      | some (.panic v, s) => leaveA (fnF E k) fn.res s.tmps s.defers (some v) s.H s.nx s.fz
      | _ => none
  | k + 1, f, args, H, nx, fz, some m => match E.code f with
    | none => none
    | some fn => match fn.body with
      | .seq (.region ops none) rest => layK (enterA fn args) fun t => heapK H fun H => match opsF E (fnF E k) (some m) ops ⟨t, H, nx, fz, [], false⟩ with
        | some (.normal, s) => match codeF E (fnF E k) none k rest s with
          | some (.normal, s') | some (.ret, s') => if s'.defers.isEmpty then (resultsA fn.res s'.tmps s'.H).map fun v => ⟨.ret v, s'.H, s'.nx, s'.fz, s.recd⟩ else none
          | _ => none
        | _ => none
      | _ => none
theorem fnF_eq {E : Env} : ∀ (k : Nat), fnF E k = evalFn E k := by
  intro k
  induction k with
  | zero => rfl
  | succ k ih =>
    funext f args H nx fz m
    cases m <;> (simp only [fnF, evalFn, ih, layK_eq, heapK_eq, codeF_eq, opsF_eq]; rfl)
end Go.Am
end
