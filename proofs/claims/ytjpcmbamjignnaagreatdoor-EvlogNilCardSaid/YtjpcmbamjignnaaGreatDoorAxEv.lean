/-
  AE at this seat: events out of raw ones.
-/
import Derived.Test.YtjpcmbamjignnaaGreatDoorAxSeat
import Derived.KernelRfl
namespace Go.Ax.Seat
open Go Go.Proofs

/-- Raw.Value. -/
def valueA : List AV → Sig → Option (AV × Sig)
  | [.agg [.int .u8 k, .int .i64 i, .int .u64 b, .str s]], σ => some (.agg [.int .u8 k, .int .i64 i, .float .f64 b.toNat, .str s], σ)
  | _, _ => none

theorem value_run (k i b : Int) (s : ByteArray) : call E0 30 96 [.agg [.int .u8 k, .int .i64 i, .int .u64 b, .str s]] {} = some (.agg [.int .u8 k, .int .i64 i, .float .f64 b.toNat, .str s], { nfr := 1 }) := by cbv

noncomputable def E1 : Env := E0.with 96 valueA

/-- A code whose loops go round k times and leave. -/
def turns (k : Nat) : Code → Code
  | .seq a b => .seq (turns k a) (turns k b)
  | .cond c a b => .cond c (turns k a) (turns k b)
  | .block i a => .block i (turns k a)
  | .scope a => .scope (turns k a)
  | .loop a => (List.replicate k a).foldr .seq .ret
  | c => c

/-- The first loop's body. -/
def loop1 : Code → Option Code
  | .seq a b => match loop1 a with
    | some c => some c
    | none => loop1 b
  | .cond _ a b => match loop1 a with
    | some c => some c
    | none => loop1 b
  | .block _ a | .scope a => loop1 a
  | .loop a => some a
  | _ => none

def bodyOf (f : Func) : Code := f.body.getD .skip
def loopOf (f : Func) : Code := ((loop1 (bodyOf f)).getD .skip)

end Go.Ax.Seat
