/-
  AE at this seat: the environment.
-/
import Derived.Test.YtlcfmdedkkmnmaaGreatDoorAxTab
import Derived.Test.YtlcfmdedkkmnmaaGreatDoorRows
import Derived.Test.YtlcfmdedkkmnmaaGreatDoorAxIso
namespace Go.Ax.Seat
open Go Go.Proofs

def u8s (l : List Int) : List AV := l.map fun n => .int .u8 n
def halves : List AV := [0, 498536548, 997073096, 651767980, 1994146192, 1802195444, 1303535960, 1342533948, 3988292384, 4027552580, 3604390888, 3412177804, 2607071920, 2262029012, 2685067896, 3183342108].map fun (n : Int) => .int .u32 n

def fieldsT : List AV := u8s [0, 17, 7, 21, 5, 31, 7, 7, 7, 7, 7, 5, 21, 4, 4, 1, 4, 15]

def globs (g : Nat) : Option (List AV) := if g = 1 then some halves else if g = 0 then some fieldsT else none

/-- The lengths of the slices that stand first in the objects. -/
def lens (σ : Sig) : List (AV × AV) → Option Nat
  | [] => some 0
  | (_, .obj id 0) :: r => match σ.objs.get id, lens σ r with
    | some (.cells (.nils :: _)), some n => some n
    | some (.cells (.slice _ len _ :: _)), some n => some (len + n)
    | _, _ => none
  | _ => none

/-- disk.Used. -/
def usedA : List AV → Sig → Option (AV × Sig)
  | [.nilp], σ => some (.int .i64 0, σ)
  | [.obj id 0], σ => match σ.objs.get id with
    | some (.cells (_ :: .map m :: _)) => match σ.objs.get m with
      | some (.amap es) => match lens σ es with
        | some n => if n < 2 ^ 62 then some (.int .i64 n, σ) else none
        | none => none
      | _ => none
    | _ => none
  | _, _ => none

def insB (x : List UInt8) : List (List UInt8) → List (List UInt8)
  | [] => [x]
  | y :: r => if decide (x ≤ y) then x :: y :: r else y :: insB x r
def sortB (l : List (List UInt8)) : List (List UInt8) := l.foldr insB []

def keysB : List (AV × AV) → Option (List (List UInt8))
  | [] => some []
  | (.str s, _) :: r => match keysB r with
    | some l => if s.size ≤ 2 ^ 40 then some (s.data.toList :: l) else none
    | none => none
  | _ => none

/-- disk.List. -/
def listA : List AV → Sig → Option (AV × Sig)
  | [.nilp], σ => some (.nils, σ)
  | [.obj id 0], σ => match σ.objs.get id with
    | some (.cells (_ :: .map m :: _)) => match σ.objs.get m with
      | some (.amap es) => match keysB es with
        | some [] => some (.nils, σ)
        | some ks => if ks.length < 2 ^ 40 then some (.slice .no ks.length ((sortB ks).map fun l => .str ⟨l.toArray⟩), σ) else none
        | none => none
      | _ => none
    | _ => none
  | _, _ => none

/-- math.Float64frombits. -/
def f64from : List AV → Option AV
  | [.int .u64 n] => some (.float .f64 n.toNat)
  | _ => none

noncomputable def E0 : Env where
  ti := tab.get
  fn f := Tryz.prog.funcs[f]?
  ov f := if f = 235 then some usedA else if f = 48 then some listA else none
  ext f := if f = 311 then some f64from else none
  globs := globs
  esc f t := !((own.get f).getD []).contains t
  plan f id := ((plans.get f).bind (·.get id)).getD []
  flat _ := false
  lazy t := t == 77
end Go.Ax.Seat
