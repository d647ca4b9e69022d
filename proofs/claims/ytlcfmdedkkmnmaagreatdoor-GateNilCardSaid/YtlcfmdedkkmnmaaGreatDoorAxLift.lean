/-
  GateNil: the row holds in the form over handed arguments, with a witness.
-/
import Derived.Test.YtlcfmdedkkmnmaaGreatDoorAxRow
import Derived.Test.YtlcfmdedkkmnmaaGreatDoorCards
import Derived.Test.YtlcfmdedkkmnmaaGreatDoorTie
namespace Go.Proofs.YtlcfmdedkkmnmaaGreatDoor
open Go Go.ChangeShapes Go.WideShapes Go.ChangeAt Go.RowKit
set_option maxRecDepth 100000

mutual
/-- The cells that a datum of numbers takes. -/
def numCells : DataW Unit → List Value
  | .lit (.int k n) => [.int k n]
  | .lit (.bool b) => [.bool b]
  | .agg l => numCellsAll l
  | _ => []
def numCellsAll : List (DataW Unit) → List Value
  | [] => []
  | d :: r => numCells d ++ numCellsAll r
end

def layIn (d : DataW Unit) : Obj → Obj
  | .cells _ t frozen => .cells (numCells d).toArray t frozen
  | o => o

def nilArgs : Array Value := #[.slice none 0 0, .int .u32 0, .int .u64 0, .int .u64 0]

/-- A world for the witness: the settled one, the tables laid. -/
noncomputable def laidWorld (os : Os) : World :=
  { World.holding Tryz.prog os ⟨#[], #[], []⟩ with heap := ((((((((World.holding Tryz.prog os ⟨#[], #[], []⟩).heap.modify 0 (layIn Rows.laid_equerry_frame_fields)).modify 1 (layIn Rows.laid_equerry_crc_halves)).modify 6 (layIn Rows.laid_internal_strconv_uint64pow10)).modify 3 (layIn Rows.laid_math_bits_deBruijn32tab)).modify 2 (layIn Rows.laid_math_bits_deBruijn64tab)).modify 8 (layIn Rows.laid_unicode_utf8_first)).modify 9 (layIn Rows.laid_unicode_utf8_acceptRanges)).modify 5 (layIn Rows.laid_equerry_pred_says) }
theorem laid_met (os : Os) : laidMet Tryz.prog Rows.gateNilRow.laid ((laidWorld os).forCall (fun _ _ => 0) ⟨#[], nilArgs, []⟩).memory :=
  laidMet_of_run' 8 (by kernel_rfl) (by kernel_rfl)
theorem reads (os : Os) {H : Type} (enc : TypeId × Value → H) : ∃ places, DataW.whole enc Tryz.prog ((laidWorld os).forCall (fun _ _ => 0) ⟨#[], nilArgs, []⟩).memory Tryz.f3.params.toList Rows.gateNilSpec.vars false nilArgs.toList 8 =
    some ([.nil, .lit (.int .u32 0), .lit (.int .u64 0), .lit (.int .u64 0)], [], places) :=
  ⟨[], by kernel_rfl⟩
theorem own : ownKnob Tryz.prog.godebug = none := by kernel_rfl

theorem lifted (os : Os) (started : os.Started) (H : Type) (enc : TypeId × Value → H) (F : Stop.Interp) :
    ReturnsInHanded {} Tryz.checked os 3 .any ((OpenSpec.ofChange Rows.gateNilSpec).preRow enc Tryz.prog Tryz.f3 Rows.gateNilRow.domain false Rows.gateNilRow.laid) (((OpenSpec.ofChange Rows.gateNilSpec).at F).post enc Tryz.prog Tryz.f3 false true false false) := by
  obtain ⟨places, hx⟩ := reads os enc
  refine returnsInHanded_of_row (C := Tryz.checked) (s := OpenSpec.ofChange Rows.gateNilSpec) own started (by kernel_rfl) Tryz.func3
    (witness_row_at (enc := enc) (C := Tryz.checked) false (laidWorld os) nilArgs rfl (by kernel_rfl) (by kernel_rfl) (by kernel_rfl)
      (OpenSpec.preRow_of_cond 8 hx (by kernel_rfl) (fun k hk => by cases hk) (by kernel_rfl) (laid_met os))) ?_
  intro W base args ds gs before hval hW _ _ _ hL _ _
  exact Go.Ax.Seat.contract H enc W base args ds gs before hval hW hL

end Go.Proofs.YtlcfmdedkkmnmaaGreatDoor
