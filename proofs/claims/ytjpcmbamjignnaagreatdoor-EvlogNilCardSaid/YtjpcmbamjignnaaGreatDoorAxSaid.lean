/-
  EvlogNil: the claim without its tie.
-/
import Derived.Test.YtjpcmbamjignnaaGreatDoorAxLift
import Derived.Test.YtjpcmbamjignnaaGreatDoorAxFacts
namespace Go.Proofs.YtjpcmbamjignnaaGreatDoor
open Go Go.ChangeShapes Go.WideShapes Go.ChangeAt Go.RowKit
set_option maxRecDepth 100000

theorem said : Rows.EvlogNilSaid :=
  OpenClaim.holds_of_cond 6 Tryz.f6 rfl rfl rfl rfl rfl rfl rfl ⟨rfl, rfl, rfl, rfl, rfl⟩ rfl rfl rfl rfl rfl evlogNil_at Tryz.func6 evlogNil_closed evlogNil_inst evlogNil_wrap
    (fun os started H enc _ F => by rw [OpenClaim.pre_eq_preRow]; exact lifted os started H enc F)
end Go.Proofs.YtjpcmbamjignnaaGreatDoor
