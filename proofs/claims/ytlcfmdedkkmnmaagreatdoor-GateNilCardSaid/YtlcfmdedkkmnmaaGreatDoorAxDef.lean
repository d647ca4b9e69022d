/-
  AE, an abstract interpreter of the model's lowered code: its definitions. It answers without a tape: slices are values, memory is what is shared alone.
  What it answers is shown elsewhere (AxSound) to be what the model's run answers. No program stands here.
-/
import Derived.Calls
namespace Go.Ax

/-- Tables by numbers. -/
inductive T (α : Type) where
  | leaf
  | node (v : Option α) (l r : T α)

namespace T
variable {α : Type}
def get : T α → Nat → Option α
  | leaf, _ => none
  | node v _ _, 0 => v
  | node _ l r, k + 1 => if k % 2 = 0 then get l (k / 2) else get r (k / 2)

def setF : Nat → T α → Nat → α → T α
  | 0, t, _, _ => t
  | _ + 1, leaf, 0, v => node (some v) leaf leaf
  | n + 1, leaf, k + 1, v => if k % 2 = 0 then node none (setF n leaf (k / 2) v) leaf else node none leaf (setF n leaf (k / 2) v)
  | _ + 1, node _ l r, 0, v => node (some v) l r
  | n + 1, node x l r, k + 1, v => if k % 2 = 0 then node x (setF n l (k / 2) v) r else node x l (setF n r (k / 2) v)

def set (t : T α) (k : Nat) (v : α) : T α := setF (k + 1) t k v

theorem get_leaf (k : Nat) : (leaf : T α).get k = none := by cases k <;> rfl

theorem get_setF (n : Nat) : ∀ (t : T α) (k : Nat) (v : α) (j : Nat), k < n → (setF n t k v).get j = if j = k then some v else t.get j := by
  induction n with
  | zero => intro t k v j h; omega
  | succ n ih =>
    intro t k v j h
    cases t with
    | leaf =>
      cases k with
      | zero => cases j <;> simp [setF, get]
      | succ k =>
        simp only [setF]
        by_cases hk : k % 2 = 0
        · simp only [hk, if_true]
          cases j with
          | zero => simp [get]
          | succ j =>
            simp only [get]
            by_cases hj : j % 2 = 0
            · simp only [hj, if_true, ih leaf (k / 2) v (j / 2) (by omega), get_leaf]
              by_cases e : j = k
              · subst e; simp
              · have : j / 2 ≠ k / 2 := by omega
                simp [e, this]
            · have e : j ≠ k := fun e => hj (e ▸ hk)
              simp [hj, e]
        · simp only [hk, if_false]
          cases j with
          | zero => simp [get]
          | succ j =>
            simp only [get]
            by_cases hj : j % 2 = 0
            · have e : j ≠ k := fun e => hk (e ▸ hj)
              simp [hj, e]
            · simp only [hj, if_false, ih leaf (k / 2) v (j / 2) (by omega), get_leaf]
              by_cases e : j = k
              · subst e; simp
              · have : j / 2 ≠ k / 2 := by omega
                simp [e, this]
    | node x l r =>
      cases k with
      | zero => cases j <;> simp [setF, get]
      | succ k =>
        simp only [setF]
        by_cases hk : k % 2 = 0
        · simp only [hk, if_true]
          cases j with
          | zero => simp [get]
          | succ j =>
            simp only [get]
            by_cases hj : j % 2 = 0
            · simp only [hj, if_true, ih l (k / 2) v (j / 2) (by omega)]
              by_cases e : j = k
              · subst e; simp
              · have : j / 2 ≠ k / 2 := by omega
                simp [e, this]
            · have e : j ≠ k := fun e => hj (e ▸ hk)
              simp [hj, e]
        · simp only [hk, if_false]
          cases j with
          | zero => simp [get]
          | succ j =>
            simp only [get]
            by_cases hj : j % 2 = 0
            · have e : j ≠ k := fun e => hk (e ▸ hj)
              simp [hj, e]
            · simp only [hj, if_false, ih r (k / 2) v (j / 2) (by omega)]
              by_cases e : j = k
              · subst e; simp
              · have : j / 2 ≠ k / 2 := by omega
                simp [e, this]

theorem get_set (t : T α) (k : Nat) (v : α) (j : Nat) : (t.set k v).get j = if j = k then some v else t.get j := get_setF _ t k v j (by omega)
theorem get_set_same (t : T α) (k : Nat) (v : α) : (t.set k v).get k = some v := by simp [get_set]
theorem get_set_ne (t : T α) {k j : Nat} (v : α) (h : j ≠ k) : (t.set k v).get j = t.get j := by simp [get_set, h]
end T

/-- May one append to a slice? 'no': nothing is known; 'exact': its capacity is its length; 'opn g sz': it is the topmost of group g, its elements of sz cells. -/
inductive Perm where
  | no | exact | opn (g sz : Nat)
  deriving DecidableEq, Repr, Inhabited

/-- Abstract values. -/
inductive AV where
  | bool (b : Bool)
  | int (k : IntKind) (n : Int)
  | float (k : FloatKind) (n : Nat)
  | str (s : ByteArray)
  | nilp
  | obj (id off : Nat)
  | loc (f t g off : Nat)
  | ro (cells : List AV) (off : Nat)
  | glob (g off : Nat)
  | nils
  | slice (p : Perm) (len : Nat) (cells : List AV)
  | nilm
  | map (id : Nat)
  /-- a map without entries that is never written -/
  | emap
  | func (f : FuncId) (first captured : List AV)
  | nilf
  | iface (t : TypeId) (v : AV)
  | nili
  | agg (cells : List AV)
  | tuple (vs : List AV)
  deriving Inhabited

/-- What is shared. -/
inductive AObj where
  | cells (cs : List AV)
  | amap (es : List (AV × AV))
  | iter (s : ByteArray) (pos : Nat)
  deriving Inhabited

structure Sig where
  objs : T AObj := .leaf
  nobj : Nat := 0
  tops : T Nat := .leaf
  ngrp : Nat := 0
  nfr : Nat := 0

structure Frm where
  fid : Nat
  fn : FuncId
  nt : Nat
  tmps : T AV
  locs : T (Nat × AObj) := .leaf

def Frm.put (fr : Frm) (dst : Option Tmp) (v : AV) : Frm :=
  match dst with
  | some d => { fr with tmps := fr.tmps.set d v }
  | none => fr

def AV.cells : AV → List AV
  | .agg cs => cs
  | v => [v]

def aundef : AV := .tuple []

def AV.one : AV → Bool
  | .agg _ | .tuple _ => false
  | _ => true


/-- Of a type, what is asked of it. -/
inductive TK where
  | int (k : IntKind) | float (k : FloatKind) | bool | str
  | ptr (e : TypeId) | slice (e : TypeId) | arr (n : Nat) (e : TypeId) | map (k e : TypeId)
  | struct (fs : List (Nat × TypeId))
  | func | iface | other
  deriving Inhabited, DecidableEq

structure TI where
  size : Nat
  bytes : Nat
  zero : List AV
  kind : TK
  deriving Inhabited

def TK.agg : TK → Bool
  | .struct _ | .arr .. => true
  | _ => false

/-- A value of a type out of its cells. -/
def TI.ofCells (i : TI) (cs : List AV) : Option AV :=
  if i.kind.agg then some (.agg cs) else match cs with
    | [v] => some v
    | _ => none

abbrev CallF := FuncId → List AV → Sig → Option (AV × Sig)

structure Env where
  ti : TypeId → Option TI
  fn : FuncId → Option Func
  /-- functions that stand for others, or have no body -/
  ov : FuncId → Option (List AV → Sig → Option (AV × Sig))
  /-- functions without a body whose answer is a value at once -/
  ext : FuncId → Option (List AV → Option AV)
  globs : Nat → Option (List AV)
  /-- is the variable that function f lays in slot t one that others may hold? -/
  esc : FuncId → Tmp → Bool
  /-- of a region that draws: which reads are looked at again, behind how many acts -/
  plan : FuncId → Nat → List (Nat × Nat × Nat)
  /-- is '==' at this type the comparing of its cells, all of them numbers, bools and texts? -/
  flat : TypeId → Bool
  /-- maps of this type are never written where they are made -/
  lazy : TypeId → Bool := fun _ => false

/-- A constant of the code: of one cell. -/
def ofScal : Value → Option AV
  | .bool b => some (.bool b)
  | .int k n => some (.int k n)
  | .float k n => some (.float k n)
  | .string s => some (.str s)
  | .pointer none => some .nilp
  | .slice none 0 0 => some .nils
  | .map none => some .nilm
  | .nilFunc => some .nilf
  | .nilIface => some .nili
  | _ => none

def ofScals : List Value → Option (List AV)
  | [] => some []
  | v :: vs => match ofScal v, ofScals vs with
    | some x, some xs => some (x :: xs)
    | _, _ => none

/-- A constant of the code. -/
def ofVal : Value → Option AV
  | .agg cs => (ofScals cs.toList).map .agg
  | v => ofScal v

def Frm.val (fr : Frm) : Operand → Option AV
  | .tmp t => fr.tmps.get t
  | .const v => ofVal v
  | .global g => some (.glob g 0)
  | .func f => some (.func f [] [])

def vals (ρ : Operand → Option AV) : List Operand → Option (List AV)
  | [] => some []
  | x :: xs => match ρ x, vals ρ xs with
    | some v, some vs => some (v :: vs)
    | _, _ => none

def pvals (ρ : Operand → Option AV) : List (Nat × Operand) → Option (List (Nat × AV))
  | [] => some []
  | (i, x) :: xs => match ρ x, pvals ρ xs with
    | some v, some vs => some ((i, v) :: vs)
    | _, _ => none

/-- n cells from a place on. -/
def cut (cs : List AV) (off n : Nat) : Option (List AV) :=
  if off + n ≤ cs.length then some ((cs.drop off).take n) else none

/-- Cells written at a place. -/
def paste (cs : List AV) (off : Nat) (new : List AV) : Option (List AV) :=
  if off + new.length ≤ cs.length then some (cs.take off ++ new ++ cs.drop (off + new.length)) else none

/-- Parts written at their places. -/
def fillA (place : Nat → Option (Nat × Nat)) (cs : List AV) : List (Nat × AV) → Option (List AV)
  | [] => some cs
  | (i, v) :: rest => match place i with
    | none => none
    | some (off, size) => if v.cells.length ≠ size then none else match paste cs off v.cells with
      | some cs => fillA place cs rest
      | none => none

def zerosA (z : List AV) : Nat → List AV
  | 0 => []
  | n + 1 => z ++ zerosA z n

def structPlace (E : Env) (fs : List (Nat × TypeId)) (i : Nat) : Option (Nat × Nat) :=
  match fs[i]? with
  | some (off, t) => match E.ti t with
    | some ti => some (off, ti.size)
    | none => none
  | none => none

def strEq (a b : ByteArray) : Bool := a.data.toList == b.data.toList

def intOp (op : BinOp) (k : IntKind) (a b : Int) : Option AV :=
  match op with
  | .add => some (.int k (k.wrap (a + b)))
  | .sub => some (.int k (k.wrap (a - b)))
  | .mul => some (.int k (k.wrap (a * b)))
  | .quo => if b = 0 then none else some (.int k (k.wrap (a.tdiv b)))
  | .rem => if b = 0 then none else some (.int k (a.tmod b))
  | .and => some (.int k (k.wrap (BitVec.ofInt k.bits a &&& BitVec.ofInt k.bits b).toNat))
  | .or => some (.int k (k.wrap (BitVec.ofInt k.bits a ||| BitVec.ofInt k.bits b).toNat))
  | .xor => some (.int k (k.wrap (BitVec.ofInt k.bits a ^^^ BitVec.ofInt k.bits b).toNat))
  | .andNot => some (.int k (k.wrap (BitVec.ofInt k.bits a &&& ~~~ BitVec.ofInt k.bits b).toNat))
  | .eql => some (.bool (a == b))
  | .neq => some (.bool (a != b))
  | .lss => some (.bool (decide (a < b)))
  | .leq => some (.bool (decide (a ≤ b)))
  | .gtr => some (.bool (decide (a > b)))
  | .geq => some (.bool (decide (a ≥ b)))
  | _ => none

def shiftOp (op : BinOp) (k : IntKind) (a b : Int) : Option AV :=
  if b < 0 then none else match op with
  | .shl => some (.int k (k.wrap (a * 2 ^ (min b.toNat k.bits))))
  | .shr => some (.int k (a.fdiv (2 ^ (min b.toNat k.bits))))
  | _ => none

def strOp (op : BinOp) (a b : ByteArray) : Option AV :=
  match op with
  | .add => if ((a.size + b.size : Nat) : Int) > IntKind.i64.max then none else some (.str (a ++ b))
  | .eql => some (.bool (a.toList == b.toList))
  | .neq => some (.bool (!(a.toList == b.toList)))
  | .lss => some (.bool (Op.bytesLess a.toList b.toList))
  | .leq => some (.bool (Op.bytesLess a.toList b.toList || a.toList == b.toList))
  | .gtr => some (.bool (!(Op.bytesLess a.toList b.toList || a.toList == b.toList)))
  | .geq => some (.bool (!Op.bytesLess a.toList b.toList))
  | _ => none

/-- Scalars alone are held against each other. -/
def scalarEq : AV → AV → Option Bool
  | .int k a, .int l b => if k = l then some (a == b) else none
  | .bool a, .bool b => some (a == b)
  | .str a, .str b => some (a == b)
  | _, _ => none

def scalarsEq : List AV → List AV → Option Bool
  | [], [] => some true
  | a :: as, b :: bs => match scalarEq a b, scalarsEq as bs with
    | some x, some y => some (x && y)
    | _, _ => none
  | _, _ => none

def ptrNil : AV → Option Bool
  | .nilp => some true
  | .obj .. | .loc .. | .ro .. | .glob .. => some false
  | _ => none
def sliceNil : AV → Option Bool
  | .nils => some true
  | .slice .. => some false
  | _ => none
def mapNil : AV → Option Bool
  | .nilm => some true
  | .map _ => some false
  | .emap => some false
  | _ => none
def funcNil : AV → Option Bool
  | .nilf => some true
  | .func .. => some false
  | _ => none
def ifaceNil : AV → Option Bool
  | .nili => some true
  | .iface .. => some false
  | _ => none

def boolEq : AV → AV → Option Bool
  | .bool a, .bool b => some (a == b)
  | _, _ => none
/-- One of the two is nil. -/
def nilEq (f : AV → Option Bool) (x y : AV) : Option Bool :=
  match f x, f y with
  | some true, some b => some b
  | some b, some true => some b
  | _, _ => none
/-- Just one of the two is nil. -/
def nilEqI (f : AV → Option Bool) (x y : AV) : Option Bool :=
  match f x, f y with
  | some true, some false => some false
  | some false, some true => some false
  | _, _ => none
def aggEq : AV → AV → Option Bool
  | .agg xs, .agg ys => scalarsEq xs ys
  | _, _ => none

/-- '==' where it is no matter of numbers or texts. -/
def eqOp (E : Env) (t : TypeId) (x y : AV) : Option Bool :=
  match E.ti t with
  | none => none
  | some ti => match ti.kind with
    | .bool => boolEq x y
    | .ptr _ => nilEq ptrNil x y
    | .slice _ => nilEq sliceNil x y
    | .map .. => nilEq mapNil x y
    | .func => nilEq funcNil x y
    | .iface => nilEqI ifaceNil x y
    | .struct _ => if E.flat t then aggEq x y else none
    | _ => none

def binA (E : Env) (op : BinOp) (t : TypeId) (x y : AV) : Option AV :=
  match op, x, y with
  | .shl, .int k a, .int _ b => shiftOp .shl k a b
  | .shr, .int k a, .int _ b => shiftOp .shr k a b
  | op, .int k a, .int l b => if k = l then intOp op k a b else none
  | op, .str a, .str b => strOp op a b
  | .eql, x, y => (eqOp E t x y).map .bool
  | .neq, x, y => (eqOp E t x y).map fun b => .bool (!b)
  | _, _, _ => none

def unA (op : UnOp) (x : AV) : Option AV :=
  match op, x with
  | .neg, .int k n => some (.int k (k.wrap (0 - n)))
  | .xor, .int k n => intOp .xor k (if k.signed then -1 else k.max) n
  | .not, .bool b => some (.bool (!b))
  | _, _ => none

def byteCells (s : ByteArray) : List AV := s.data.toList.map fun b => .int .u8 b.toNat

/-- The bytes of cells. -/
def cellInts : List AV → Option (List Int)
  | [] => some []
  | .int .u8 n :: r => match cellInts r with
    | some l => some (n :: l)
    | none => none
  | _ :: _ => none
def bytesOf (l : List Int) : ByteArray := l.foldl (fun r n => r.push (UInt8.ofNat n.toNat)) .empty

def convA (E : Env) (src dst : TypeId) (x : AV) : Option AV :=
  match E.ti src, E.ti dst with
  | some s, some d => match d.kind, x with
    | .int k, .int _ n => some (.int k (k.wrap n))
    | .str, .str s => some (.str s)
    | .slice e, .str b => match E.ti e with
      | some ei => if ei.kind = .int .u8 then some (.slice .no b.size (byteCells b)) else none
      | none => none
    | .str, .nils => match s.kind with
      | .slice e => match E.ti e with
        | some ei => if ei.kind = .int .u8 then some (.str .empty) else none
        | none => none
      | _ => none
    | .str, .slice _ len cells => match s.kind with
      | .slice e => match E.ti e with
        | some ei => if ei.kind = .int .u8 ∧ cells.length = len then (cellInts cells).map fun l => .str (bytesOf l) else none
        | none => none
      | _ => none
    | _, _ => none
  | _, _ => none

def addOff (p : AV) (n : Nat) : Option AV :=
  match p with
  | .obj i o => some (.obj i (o + n))
  | .loc f t g o => some (.loc f t g (o + n))
  | .ro cs o => some (.ro cs (o + n))
  | .glob g o => some (.glob g (o + n))
  | _ => none

def fieldOf (E : Env) (t : TypeId) (i : Nat) : Option (Nat × TI) :=
  match E.ti t with
  | some { kind := .struct fs, .. } => match fs[i]? with
    | some (off, ft) => match E.ti ft with
      | some fi => some (off, fi)
      | none => none
    | none => none
  | _ => none

def fieldAddrA (E : Env) (t : TypeId) (x : AV) (i : Nat) : Option AV :=
  match fieldOf E t i with
  | some (off, fi) => if fi.size = 0 then none else addOff x off
  | none => none

def fieldA (E : Env) (t : TypeId) (x : AV) (i : Nat) : Option AV :=
  match fieldOf E t i, x with
  | some (off, fi), .agg cs => match cut cs off fi.size with
    | some l => fi.ofCells l
    | none => none
  | _, _ => none

def indexAddrA (E : Env) (t : TypeId) (x i : AV) : Option AV :=
  match E.ti t, i with
  | some ti, .int _ n => match ti.kind, x with
    | .slice e, .slice _ len cs => match E.ti e with
      | some ei => if 0 ≤ n ∧ n < len ∧ cs.length = len * ei.size then some (.ro cs (n.toNat * ei.size)) else none
      | none => none
    | .arr len e, x => match E.ti e with
      | some ei => if 0 ≤ n ∧ n < len then addOff x (n.toNat * ei.size) else none
      | none => none
    | _, _ => none
  | _, _ => none

def indexA (E : Env) (t : TypeId) (x i : AV) : Option AV :=
  match E.ti t, i with
  | some ti, .int _ n => match ti.kind, x with
    | .str, .str s => if 0 ≤ n then match s[n.toNat]? with
      | some b => some (.int .u8 b.toNat)
      | none => none else none
    | .arr len e, .agg cs => match E.ti e with
      | some ei => if 0 ≤ n ∧ n < len then match cut cs (n.toNat * ei.size) ei.size with
        | some l => ei.ofCells l
        | none => none else none
      | none => none
    | _, _ => none
  | _, _ => none

/-- A bound of a slice expression. -/
def bound (x : Option AV) (d most : Nat) : Option Nat :=
  match x with
  | none => some d
  | some (.int _ n) => if 0 ≤ n ∧ n ≤ most then some n.toNat else none
  | some _ => none

def oval (ρ : Operand → Option AV) : Option Operand → Option (Option AV)
  | none => some none
  | some x => (ρ x).map some

def sliceParts : AV → Option (Perm × Nat × List AV)
  | .nils => some (.exact, 0, [])
  | .slice p n cs => some (p, n, cs)
  | _ => none

/-- A part of a slice; of a nil one: nil. -/
def cutSlice (x : AV) (p : Perm) (sz : Nat) (cs : List AV) (l h : Nat) : AV :=
  match x with
  | .nils => .nils
  | _ => .slice p (h - l) ((cs.drop (l * sz)).take ((h - l) * sz))

def sliceA (E : Env) (t : TypeId) (x : AV) (lo hi mx : Option AV) : Option AV :=
  match E.ti t with
  | none => none
  | some ti => match ti.kind, x with
    | .str, .str s => match mx with
      | some _ => none
      | none => match bound hi s.size s.size with
        | none => none
        | some h => match bound lo 0 h with
          | none => none
          | some l => some (.str (s.extract l h))
    | .slice e, x => match E.ti e, sliceParts x with
      | some ei, some (p, len, cs) => if cs.length ≠ len * ei.size then none else match mx with
        | none => match bound hi len len with
          | none => none
          | some h => match bound lo 0 h with
            | none => none
            | some l => some (cutSlice x (if l = 0 ∧ h = len then p else if h = len ∧ p = .exact then .exact else .no) ei.size cs l h)
        | some m => match bound (some m) 0 len with
          | none => none
          | some m => match hi with
            | none => none
            | some h => match bound (some h) 0 m with
              | none => none
              | some h => match bound lo 0 h with
                | none => none
                | some l => some (cutSlice x (if m = h then .exact else .no) ei.size cs l h)
      | _, _ => none
    | _, _ => none

def extractA (x : AV) (i : Nat) : Option AV :=
  match x with
  | .tuple vs => vs[i]?
  | _ => none

def max2A : AV → AV → Option AV
  | .int k x, .int l y => if k = l then some (.int k (if y > x then y else x)) else none
  | _, _ => none
def min2A : AV → AV → Option AV
  | .int k x, .int l y => if k = l then some (.int k (if y < x then y else x)) else none
  | _, _ => none
def foldA (f : AV → AV → Option AV) : AV → List AV → Option AV
  | x, [] => some x
  | x, y :: r => match f x y with
    | some z => foldA f z r
    | none => none

def lenA (E : Env) (t : TypeId) (x : AV) : Option AV :=
  match E.ti t with
  | some ti => match ti.kind, x with
    | .str, .str s => some (.int .i64 s.size)
    | .slice _, .nils => some (.int .i64 0)
    | .slice _, .slice _ len _ => some (.int .i64 len)
    | .map .., .nilm => some (.int .i64 0)
    | .arr n _, _ => some (.int .i64 n)
    | _, _ => none
  | none => none

/-- Operations that look at no memory; 'none': it is none of these, or it is not answered. -/
def evalP (E : Env) (ρ : Operand → Option AV) : Op → Option AV
  | .move x | .assign x => ρ x
  | .pick c a b => match ρ c with
    | some (.bool true) => ρ a
    | some (.bool false) => ρ b
    | _ => none
  | .build t parts => match E.ti t, pvals ρ parts.toList with
    | some ti, some ps => match ti.kind with
      | .struct fs => (fillA (structPlace E fs) ti.zero ps).map .agg
      | .arr _ e => match E.ti e with
        | some ei => (fillA (fun i => some (i * ei.size, ei.size)) ti.zero ps).map .agg
        | none => none
      | _ => none
    | _, _ => none
  | .buildSlice t len parts => match E.ti t, pvals ρ parts.toList with
    | some ti, some ps => match ti.kind with
      | .slice e => match E.ti e with
        | some ei => if len * ei.size > 2 ^ 24 then none else
          (fillA (fun i => some (i * ei.size, ei.size)) (zerosA ei.zero len) ps).map fun cs => .slice .exact len cs
        | none => none
      | _ => none
    | _, _ => none
  | .nilCheck x => match ρ x with
    | some (.obj i o) => some (.obj i o)
    | some (.loc f t g o) => some (.loc f t g o)
    | some (.ro cs o) => some (.ro cs o)
    | some (.glob g o) => some (.glob g o)
    | some (.func f a b) => some (.func f a b)
    | _ => none
  | .binOp op t x y _ => match ρ x, ρ y with
    | some a, some b => binA E op t a b
    | _, _ => none
  | .unOp op _ x => match ρ x with
    | some a => unA op a
    | none => none
  | .convert s d x => match ρ x with
    | some a => convA E s d a
    | none => none
  | .makeInterface t x => match E.ti t, ρ x with
    | some ti, some a => match ti.kind with
      | .iface | .other => none
      | _ => some (.iface t a)
    | _, _ => none
  | .makeFunc (.func f) first captured => match vals ρ first.toList, vals ρ captured.toList with
    | some a, some b => some (.func f a b)
    | _, _ => none
  | .slice t x lo hi mx => match ρ x, oval ρ lo, oval ρ hi, oval ρ mx with
    | some a, some l, some h, some m => sliceA E t a l h m
    | _, _, _, _ => none
  | .fieldAddr t x f => match ρ x with
    | some a => fieldAddrA E t a f
    | none => none
  | .field t x f => match ρ x with
    | some a => fieldA E t a f
    | none => none
  | .indexAddr t x i => match ρ x, ρ i with
    | some a, some b => indexAddrA E t a b
    | _, _ => none
  | .index t x i => match ρ x, ρ i with
    | some a, some b => indexA E t a b
    | _, _ => none
  | .extract x i => match ρ x with
    | some a => extractA a i
    | none => none
  | .makeMap t none => if E.lazy t then match E.ti t with
    | some { kind := .map .., .. } => some .emap
    | _ => none else none
  | .call { callee := .builtin .len, args, argTypes } => match argTypes[0]?, args[0]? with
    | some t, some x => match ρ x with
      | some a => lenA E t a
      | none => none
    | _, _ => none
  | .call { callee := .builtin .max, args, .. } => match vals ρ args.toList with
    | some (a :: r) => foldA max2A a r
    | _ => none
  | .call { callee := .builtin .min, args, .. } => match vals ρ args.toList with
    | some (a :: r) => foldA min2A a r
    | _ => none
  | _ => none

structure Mem where
  locs : T (Nat × AObj)
  sig : Sig

/-- The object that an address lies in, and where. -/
def readAt (E : Env) (fid : Nat) (M : Mem) : AV → Option (List AV × Nat)
  | .obj id off => match M.sig.objs.get id with
    | some (.cells cs) => some (cs, off)
    | _ => none
  | .loc f t g off => if f = fid then match M.locs.get t with
      | some (g', .cells cs) => if g' = g then some (cs, off) else none
      | _ => none else none
  | .ro cs off => some (cs, off)
  | .glob g off => match E.globs g with
    | some cs => some (cs, off)
    | none => none
  | _ => none

def loadA (E : Env) (fid : Nat) (M : Mem) (t : TypeId) (p : AV) : Option AV :=
  match E.ti t, readAt E fid M p with
  | some ti, some (cs, off) => match cut cs off (if ti.kind.agg then ti.size else 1) with
    | some l => ti.ofCells l
    | none => none
  | _, _ => none

/-- A key's place among a map's entries. -/
def findA (k : AV) : List (AV × AV) → Nat → Option (Option Nat)
  | [], _ => some none
  | e :: es, i => match scalarEq k e.1 with
    | some true => some (some i)
    | some false => findA k es (i + 1)
    | none => none

def keyKind : TK → AV → Bool
  | .int k, .int l _ => k = l
  | .str, .str _ => true
  | _, _ => false

def entriesOf (M : Mem) : AV → Option (List (AV × AV))
  | .nilm => some []
  | .emap => some []
  | .map id => match M.sig.objs.get id with
    | some (.amap es) => some es
    | _ => none
  | _ => none

def lookupA (E : Env) (M : Mem) (t : TypeId) (m k : AV) (ok : Bool) : Option AV :=
  match E.ti t, entriesOf M m with
  | some { kind := .map kt et, .. }, some es => match E.ti kt, E.ti et with
    | some ki, some ei => if keyKind ki.kind k then match findA k es 0 with
      | some (some i) => match es[i]? with
        | some e => some (if ok then .tuple [e.2, .bool true] else e.2)
        | none => none
      | some none => match ei.ofCells ei.zero with
        | some z => some (if ok then .tuple [z, .bool false] else z)
        | none => none
      | none => none else none
    | _, _ => none
  | _, _ => none

/-- Operations that look at memory, and leave it. -/
def evalL (E : Env) (fid : Nat) (M : Mem) (ρ : Operand → Option AV) : Op → Option AV
  | .load t a => match ρ a with
    | some p => loadA E fid M t p
    | none => none
  | .lookup t x i ok => match ρ x, ρ i with
    | some m, some k => lookupA E M t m k ok
    | _, _ => none
  | .call { callee := .builtin .len, args, argTypes } => match argTypes[0]?, args[0]? with
    | some t, some x => match E.ti t, ρ x with
      | some { kind := .map .., .. }, some (.map id) => match M.sig.objs.get id with
        | some (.amap es) => some (.int .i64 es.length)
        | _ => none
      | _, _ => none
    | _, _ => none
  | _ => none

def storeA (fid : Nat) (M : Mem) (p : AV) (new : List AV) : Option Mem :=
  match p with
  | .obj id off => match M.sig.objs.get id with
    | some (.cells cs) => match paste cs off new with
      | some cs => some { M with sig := { M.sig with objs := M.sig.objs.set id (.cells cs) } }
      | none => none
    | _ => none
  | .loc f t g off => if f = fid then match M.locs.get t with
      | some (g', .cells cs) => if g' = g then match paste cs off new with
        | some cs => some { M with locs := M.locs.set t (g, .cells cs) }
        | none => none else none
      | _ => none else none
  | _ => none

def nextGen (locs : T (Nat × AObj)) (t : Nat) : Nat :=
  match locs.get t with
  | some (g, _) => g + 1
  | none => 0

/-- A new object of one's own in slot t. -/
def localA (fid : Nat) (M : Mem) (t : Nat) (o : AObj) : AV × Mem :=
  (.loc fid t (nextGen M.locs t) 0, { M with locs := M.locs.set t (nextGen M.locs t, o) })

def newA (M : Mem) (o : AObj) : Nat × Mem :=
  (M.sig.nobj, { M with sig := { M.sig with objs := M.sig.objs.set M.sig.nobj o, nobj := M.sig.nobj + 1 } })

/-- A new object, in slot t or for all. -/
def allocA (E : Env) (fn fid : Nat) (M : Mem) (dst : Option Tmp) (cs : List AV) : Option (AV × Mem) :=
  match dst with
  | none => none
  | some t => if E.esc fn t then let (id, M') := newA M (.cells cs); some (.obj id 0, M') else some (localA fid M t (.cells cs))

/-- What is put behind a slice: how many elements, their cells. -/
def addedParts (bytes : Bool) : AV → Option (Nat × List AV)
  | .nils => some (0, [])
  | .slice _ n cs => some (n, cs)
  | .str s => if bytes then some (s.size, byteCells s) else none
  | _ => none

def appendA (E : Env) (M : Mem) (t : TypeId) (s x : AV) : Option (AV × Mem) :=
  match E.ti t with
  | some { kind := .slice e, .. } => match E.ti e with
    | some ei => match sliceParts s, addedParts (ei.kind = .int .u8) x with
      | some (p, len, cs), some (n, new) =>
        if cs.length ≠ len * ei.size ∨ new.length ≠ n * ei.size ∨ new.all AV.one = false then none else
        if n = 0 then some (s, M) else
        if (len + n) * ei.bytes > 2 ^ 46 ∨ ei.bytes = 0 ∨ ei.size = 0 then none else
        match p with
        | .no => none
        | .exact => some (.slice (.opn M.sig.ngrp ei.size) (len + n) (cs ++ new),
            { M with sig := { M.sig with ngrp := M.sig.ngrp + 1, tops := M.sig.tops.set M.sig.ngrp ((len + n) * ei.size) } })
        | .opn g sz => if sz = ei.size ∧ M.sig.tops.get g = some cs.length then
            some (.slice (.opn g sz) (len + n) (cs ++ new), { M with sig := { M.sig with tops := M.sig.tops.set g ((len + n) * ei.size) } }) else none
      | _, _ => none
    | none => none
  | _ => none

def makeSliceA (E : Env) (M : Mem) (t : TypeId) (l c : AV) : Option (AV × Mem) :=
  match E.ti t, l, c with
  | some { kind := .slice e, .. }, .int .i64 l, .int .i64 c => match E.ti e with
    | some ei => if 0 ≤ l ∧ l ≤ c ∧ c < 2 ^ 63 ∧ ei.bytes * c ≤ 2 ^ 46 ∧ 0 < ei.size then
        if l = c then some (.slice .exact l.toNat (zerosA ei.zero l.toNat), M)
        else some (.slice (.opn M.sig.ngrp ei.size) l.toNat (zerosA ei.zero l.toNat),
          { M with sig := { M.sig with ngrp := M.sig.ngrp + 1, tops := M.sig.tops.set M.sig.ngrp (l.toNat * ei.size) } })
      else none
    | none => none
  | _, _, _ => none

def mapPutA (E : Env) (M : Mem) (t : TypeId) (m k v : AV) : Option Mem :=
  match E.ti t, m with
  | some { kind := .map kt _, .. }, .map id => match E.ti kt, M.sig.objs.get id with
    | some ki, some (.amap es) => if keyKind ki.kind k then match findA k es 0 with
      | some (some i) => some { M with sig := { M.sig with objs := M.sig.objs.set id (.amap (es.set i (k, v))) } }
      | some none => some { M with sig := { M.sig with objs := M.sig.objs.set id (.amap (es ++ [(k, v)])) } }
      | none => none else none
    | _, _ => none
  | _, _ => none

def mapDelA (E : Env) (M : Mem) (t : TypeId) (m k : AV) : Option Mem :=
  match E.ti t, m with
  | some { kind := .map kt _, .. }, .map id => match E.ti kt, M.sig.objs.get id with
    | some ki, some (.amap es) => if keyKind ki.kind k then match findA k es 0 with
      | some (some i) => some { M with sig := { M.sig with objs := M.sig.objs.set id (.amap (es.eraseIdx i)) } }
      | some none => some M
      | none => none else none
    | _, _ => none
  | _, _ => none

/-- A call of a function value. -/
def callA (E : Env) (call : CallF) (σ : Sig) (f : AV) (args : List AV) : Option (AV × Sig) :=
  match f with
  | .func f first captured => match E.ext f with
    | some h => match h (first ++ args ++ captured) with
      | some v => some (v, σ)
      | none => none
    | none => call f (first ++ args ++ captured) σ
  | _ => none

/-- Operations that change memory, or may. -/
def evalE (E : Env) (call : CallF) (fn fid : Nat) (dst : Option Tmp) (M : Mem) (ρ : Operand → Option AV) : Op → Option (AV × Mem)
  | .alloc e => match E.ti e with
    | some ti => allocA E fn fid M dst ti.zero
    | none => none
  | .box e x => match E.ti e, ρ x with
    | some _, some v => allocA E fn fid M dst v.cells
    | _, _ => none
  | .store t a x => match E.ti t, ρ a, ρ x with
    | some ti, some p, some v => if v.cells.length = ti.size ∧ v.cells.all AV.one = true then (storeA fid M p v.cells).map fun M => (aundef, M) else none
    | _, _, _ => none
  | .makeMap t none => match E.ti t with
    | some { kind := .map .., .. } => let (id, M') := newA M (.amap []); some (.map id, M')
    | _ => none
  | .makeSlice t l c => match ρ l, ρ c with
    | some l, some c => makeSliceA E M t l c
    | _, _ => none
  | .mapUpdate t m k x => match ρ m, ρ k, ρ x with
    | some m, some k, some v => (mapPutA E M t m k v).map fun M => (aundef, M)
    | _, _, _ => none
  | .range t x => match E.ti t, ρ x, dst with
    | some { kind := .str, .. }, some (.str s), some t => some (localA fid M t (.iter s 0))
    | _, _, _ => none
  | .next it true => match ρ it with
    | some (.loc f t g 0) => if f = fid then match M.locs.get t with
        | some (g', .iter s pos) => if g' = g then
            if pos < s.size then
              let (c, width) := Utf8.decode s pos
              some (.tuple [.bool true, .int .i64 pos, .int .i32 c], { M with locs := M.locs.set t (g, .iter s (pos + width)) })
            else some (.tuple [.bool false], M)
          else none
        | _ => none else none
    | _ => none
  | .call { callee := .builtin .append, args, argTypes } => match argTypes[0]?, vals ρ args.toList with
    | some t, some [s, x] => match argTypes[1]? with
      | some xt => match E.ti xt with
        | some xi => match xi.kind with
          | .slice _ | .str => appendA E M t s x
          | _ => none
        | none => none
      | none => none
    | _, _ => none
  | .call { callee := .builtin .copy, args, argTypes } => match argTypes[0]?, vals ρ args.toList with
    | some t, some [d, s] => match E.ti t, sliceParts d, addedParts true s with
      | some { kind := .slice e, .. }, some (_, n, _), some (m, _) => match E.ti e with
        | some _ => if n = 0 ∨ m = 0 then some (.int .i64 0, M) else none
        | none => none
      | _, _, _ => none
    | _, _ => none
  | .call { callee := .builtin .delete, args, argTypes } => match argTypes[0]?, vals ρ args.toList with
    | some t, some [m, k] => (mapDelA E M t m k).map fun M => (aundef, M)
    | _, _ => none
  | .call { callee := .value f, args, .. } => match ρ f, vals ρ args.toList with
    | some f, some as => match callA E call M.sig f as with
      | some (v, σ) => some (v, { M with sig := σ })
      | none => none
    | _, _ => none
  | _ => none

/-- Of which make is an operation? -/
inductive Cls where
  | p | l | e
  deriving DecidableEq

def clsOf (E : Env) : Op → Cls
  | .load .. | .lookup .. => .l
  | .call { callee := .builtin .len, argTypes, .. } => match argTypes[0]? with
    | some t => match E.ti t with
      | some { kind := .map .., .. } => .l
      | _ => .p
    | none => .p
  | .call { callee := .builtin .max, .. } | .call { callee := .builtin .min, .. } => .p
  | .makeMap t _ => if E.lazy t then .p else .e
  | .call _ | .alloc _ | .box .. | .store .. | .makeSlice .. | .mapUpdate .. | .range .. | .next .. => .e
  | _ => .p

/-- An operation: its value, and memory behind it. -/
def evalOp (E : Env) (call : CallF) (fn fid : Nat) (dst : Option Tmp) (M : Mem) (ρ : Operand → Option AV) (op : Op) : Option (AV × Mem) :=
  match clsOf E op with
  | .p => (evalP E ρ op).map (·, M)
  | .l => match evalL E fid M ρ op with
    | some v => some (v, M)
    | none => (evalP E ρ op).map (·, M)
  | .e => evalE E call fn fid dst M ρ op

/-- Is an operation wanted? none: that is not known. -/
def wantedA (ops : Array Oper) (fr : Frm) (o : Oper) : Option Bool :=
  match o.guard with
  | none => some true
  | some (j, want) => match ops[j]? with
    | none => none
    | some q => match q.dst with
      | none => none
      | some d => match fr.tmps.get d with
        | some (.bool b) => some (b == want)
        | some _ => some false
        | none => none

def Frm.inSlots (fr : Frm) : Option Tmp → Bool
  | none => true
  | some d => decide (d < fr.nt)

/-- One operation of a region. -/
def stepOp (E : Env) (call : CallF) (ops : Array Oper) (fr : Frm) (σ : Sig) (o : Oper) : Option (Frm × Sig) :=
  if fr.inSlots o.dst then
    match wantedA ops fr o with
    | none => none
    | some false => some (fr.put o.dst aundef, σ)
    | some true => match evalOp E call fr.fn fr.fid o.dst ⟨fr.locs, σ⟩ fr.val o.op with
      | none => none
      | some (v, M) => some (({ fr with locs := M.locs } : Frm).put o.dst v, M.sig)
  else none

def evalOps (E : Env) (call : CallF) (ops : Array Oper) : List Oper → Frm → Sig → Option (Frm × Sig)
  | [], fr, σ => some (fr, σ)
  | o :: rest, fr, σ => match stepOp E call ops fr σ o with
    | some (fr, σ) => evalOps E call ops rest fr σ
    | none => none

mutual
def AV.beq : AV → AV → Bool
  | .bool a, .bool b => a == b
  | .int k a, .int l b => decide (k = l) && decide (a = b)
  | .float k a, .float l b => decide (k = l) && decide (a = b)
  | .str a, .str b => strEq a b
  | .nilp, .nilp | .nils, .nils | .nilm, .nilm | .emap, .emap | .nilf, .nilf | .nili, .nili => true
  | .obj i o, .obj j q => decide (i = j) && decide (o = q)
  | .loc f t g o, .loc f' t' g' o' => decide (f = f') && decide (t = t') && decide (g = g') && decide (o = o')
  | .ro a o, .ro b q => AV.beqs a b && decide (o = q)
  | .glob i o, .glob j q => decide (i = j) && decide (o = q)
  | .slice p n a, .slice q m b => decide (p = q) && decide (n = m) && AV.beqs a b
  | .map i, .map j => decide (i = j)
  | .func f a b, .func g c d => decide (f = g) && AV.beqs a c && AV.beqs b d
  | .iface t a, .iface u b => decide (t = u) && AV.beq a b
  | .agg a, .agg b => AV.beqs a b
  | .tuple a, .tuple b => AV.beqs a b
  | _, _ => false
def AV.beqs : List AV → List AV → Bool
  | [], [] => true
  | a :: as, b :: bs => AV.beq a b && AV.beqs as bs
  | _, _ => false
end

mutual
theorem AV.beq_eq : ∀ {a b : AV}, AV.beq a b = true → a = b
  | .bool a, b, h => by cases b <;> simp [AV.beq] at h; simp [h]
  | .int k a, b, h => by cases b <;> simp [AV.beq] at h; simp [h]
  | .float k a, b, h => by cases b <;> simp [AV.beq] at h; simp [h]
  | .str s, b, h => by
    cases b <;> simp [AV.beq, strEq] at h
    rename_i t
    cases s; cases t; simp at h; simp [h]
  | .nilp, b, h => by cases b <;> simp [AV.beq] at h; rfl
  | .obj i o, b, h => by cases b <;> simp [AV.beq] at h; simp [h]
  | .loc f t g o, b, h => by cases b <;> simp [AV.beq] at h; simp [h]
  | .ro cs o, b, h => by
    cases b <;> simp [AV.beq] at h
    simp [AV.beqs_eq h.1, h.2]
  | .glob g o, b, h => by cases b <;> simp [AV.beq] at h; simp [h]
  | .nils, b, h => by cases b <;> simp [AV.beq] at h; rfl
  | .slice p n cs, b, h => by
    cases b <;> simp [AV.beq] at h
    simp [AV.beqs_eq h.2, h.1.1, h.1.2]
  | .nilm, b, h => by cases b <;> simp [AV.beq] at h; rfl
  | .emap, b, h => by cases b <;> simp [AV.beq] at h; rfl
  | .map i, b, h => by cases b <;> simp [AV.beq] at h; simp [h]
  | .func f x y, b, h => by
    cases b <;> simp [AV.beq] at h
    simp [AV.beqs_eq h.2, AV.beqs_eq h.1.2, h.1.1]
  | .nilf, b, h => by cases b <;> simp [AV.beq] at h; rfl
  | .iface t v, b, h => by
    cases b <;> simp [AV.beq] at h
    simp [AV.beq_eq h.2, h.1]
  | .nili, b, h => by cases b <;> simp [AV.beq] at h; rfl
  | .agg cs, b, h => by cases b <;> simp [AV.beq] at h; simp [AV.beqs_eq h]
  | .tuple cs, b, h => by cases b <;> simp [AV.beq] at h; simp [AV.beqs_eq h]
theorem AV.beqs_eq : ∀ {a b : List AV}, AV.beqs a b = true → a = b
  | [], b, h => by cases b <;> simp [AV.beqs] at h; rfl
  | a :: as, b, h => by
    cases b with
    | nil => simp [AV.beqs] at h
    | cons b bs =>
      simp only [AV.beqs, Bool.and_eq_true] at h
      rw [AV.beq_eq h.1, AV.beqs_eq h.2]
end

theorem strEq_refl (s : ByteArray) : strEq s s = true := by simp [strEq]
mutual
theorem AV.beq_refl : ∀ (a : AV), AV.beq a a = true
  | .bool a => by simp [AV.beq]
  | .int k a => by simp [AV.beq]
  | .float k a => by simp [AV.beq]
  | .str s => by simp [AV.beq, strEq_refl]
  | .nilp => by simp [AV.beq]
  | .obj i o => by simp [AV.beq]
  | .loc f t g o => by simp [AV.beq]
  | .ro cs o => by simp [AV.beq, AV.beqs_refl cs]
  | .glob g o => by simp [AV.beq]
  | .nils => by simp [AV.beq]
  | .slice p n cs => by simp [AV.beq, AV.beqs_refl cs]
  | .nilm => by simp [AV.beq]
  | .emap => by simp [AV.beq]
  | .map i => by simp [AV.beq]
  | .func f x y => by simp [AV.beq, AV.beqs_refl x, AV.beqs_refl y]
  | .nilf => by simp [AV.beq]
  | .iface t v => by simp [AV.beq, AV.beq_refl v]
  | .nili => by simp [AV.beq]
  | .agg cs => by simp [AV.beq, AV.beqs_refl cs]
  | .tuple cs => by simp [AV.beq, AV.beqs_refl cs]
theorem AV.beqs_refl : ∀ (a : List AV), AV.beqs a a = true
  | [] => by simp [AV.beqs]
  | a :: as => by simp [AV.beqs, AV.beq_refl a, AV.beqs_refl as]
end

instance AV.decEq : DecidableEq AV := fun a b => if h : AV.beq a b = true then .isTrue (AV.beq_eq h) else .isFalse fun e => h (by subst e; exact AV.beq_refl a)

/-- Is an operation the laying of a variable of one's own? -/
def ownAlloc (E : Env) (fn : FuncId) (o : Oper) : Bool :=
  match o.op, o.dst with
  | .alloc _, some t => !E.esc fn t
  | _, _ => false

/-- The rest of a region that draws, in the text's order; the memories behind each act, the last one first. -/
def evalTrace (E : Env) (call : CallF) (ops : Array Oper) : List Oper → Frm → Sig → List Mem → Option (Frm × Sig × List Mem)
  | [], fr, σ, ms => some (fr, σ, ms)
  | o :: rest, fr, σ, ms => match stepOp E call ops fr σ o with
    | some (fr', σ') => evalTrace E call ops rest fr' σ' (if clsOf E o.op = .e then ⟨fr'.locs, σ'⟩ :: ms else ms)
    | none => none

/-- Is a read the same behind k acts, k from lo to hi? (ms: the memories, the first one first) -/
def sameRead (E : Env) (ops : Array Oper) (fr : Frm) (ms : List Mem) (x : Nat × Nat × Nat) : Bool :=
  match ops[x.1]? with
  | none => false
  | some o => match wantedA ops fr o with
    | none => false
    | some false => true
    | some true => match o.dst with
      | none => false
      | some d => match fr.tmps.get d with
        | none => false
        | some r => ((ms.drop x.2.1).take (x.2.2 + 1 - x.2.1)).all fun M => match evalOp E (fun _ _ _ => none) fr.fn fr.fid o.dst M fr.val o.op with
          | some (v, _) => decide (v = r)
          | none => false

def evalDrawn (E : Env) (call : CallF) (ops : Array Oper) (plan : List (Nat × Nat × Nat)) (fr : Frm) (σ : Sig) : Option (Frm × Sig) :=
  match evalOps E call ops (ops.toList.filter (ownAlloc E fr.fn)) fr σ with
  | none => none
  | some (fr, σ) => match evalTrace E call ops (ops.toList.filter fun o => !ownAlloc E fr.fn o) fr σ [⟨fr.locs, σ⟩] with
    | none => none
    | some (fr', σ', ms) => if plan.all (sameRead E ops fr' ms.reverse) then some (fr', σ') else none

inductive AEx where
  | normal | exit (id : Nat) | ret

def resultA (E : Env) (fr : Frm) (σ : Sig) : ResultVar → Option AV
  | .tmp t => fr.tmps.get t
  | .cell a t => match fr.tmps.get a with
    | some p => loadA E fr.fid ⟨fr.locs, σ⟩ t p
    | none => none

def resultsA (E : Env) (fr : Frm) (σ : Sig) : List ResultVar → Option (List AV)
  | [] => some []
  | r :: rs => match resultA E fr σ r, resultsA E fr σ rs with
    | some v, some vs => some (v :: vs)
    | _, _ => none

def oneOf : List AV → AV
  | [v] => v
  | vs => .tuple vs

def argTmps : List AV → Nat → T AV
  | [], _ => .leaf
  | v :: vs, i => (argTmps vs (i + 1)).set i v

/-- A call, by what runs code. -/
def callWith (E : Env) (run : Code → Frm → Sig → Option (AEx × Frm × Sig)) (f : FuncId) (args : List AV) (σ : Sig) : Option (AV × Sig) :=
  match E.ov f with
  | some h => h args σ
  | none => match E.fn f with
    | none => none
    | some fn => match fn.body with
      | none => none
      | some c =>
        match run c { fid := σ.nfr, fn := f, nt := max fn.ntmps args.length, tmps := argTmps args 0 } { σ with nfr := σ.nfr + 1 } with
        | some (.normal, fr, σ) | some (.ret, fr, σ) => match resultsA E fr σ fn.results.toList with
          | some vs => some (oneOf vs, σ)
          | none => none
        | _ => none

/-- Code, within a number of rounds. -/
def exec (E : Env) : Nat → Code → Frm → Sig → Option (AEx × Frm × Sig)
  | 0, _, _, _ => none
  | n + 1, c, fr, σ => match c with
    | .skip | .label _ => some (.normal, fr, σ)
    | .region id ops draw =>
      match (if draw then evalDrawn E (callWith E (exec E n)) ops (E.plan fr.fn id) fr σ else evalOps E (callWith E (exec E n)) ops ops.toList fr σ) with
      | some (fr, σ) => some (.normal, fr, σ)
      | none => none
    | .seq a b => match exec E n a fr σ with
      | some (.normal, fr, σ) => exec E n b fr σ
      | r => r
    | .cond c a b => match fr.val c with
      | some (.bool true) => exec E n a fr σ
      | some (.bool false) => exec E n b fr σ
      | _ => none
    | .block id body => match exec E n body fr σ with
      | some (.exit i, fr, σ) => if i = id then some (.normal, fr, σ) else some (.exit i, fr, σ)
      | r => r
    | .loop body => match exec E n body fr σ with
      | some (.normal, fr, σ) => exec E n (.loop body) fr σ
      | r => r
    | .scope body => exec E n body fr σ
    | .exit id => some (.exit id, fr, σ)
    | .ret => some (.ret, fr, σ)
    | _ => none

def call (E : Env) (n : Nat) : CallF := callWith E (exec E n)

end Go.Ax
