/-
  GateNil: the claim without its tie.
-/
import Derived.Test.YtlcfmdedkkmnmaaGreatDoorAxLift
import Derived.Test.YtlcfmdedkkmnmaaGreatDoorAxFacts
namespace Go.Proofs.YtlcfmdedkkmnmaaGreatDoor
open Go Go.ChangeShapes Go.WideShapes Go.ChangeAt Go.RowKit
set_option maxRecDepth 100000

theorem said : Rows.GateNilSaid :=
  OpenClaim.holds_of_cond 3 Tryz.f3 rfl rfl rfl rfl rfl rfl rfl ⟨rfl, rfl, rfl, rfl, rfl⟩ rfl rfl rfl rfl rfl gateNil_at Tryz.func3 gateNil_closed gateNil_inst gateNil_wrap
    (fun os started H enc _ F => by rw [OpenClaim.pre_eq_preRow]; exact lifted os started H enc F)
end Go.Proofs.YtlcfmdedkkmnmaaGreatDoor
