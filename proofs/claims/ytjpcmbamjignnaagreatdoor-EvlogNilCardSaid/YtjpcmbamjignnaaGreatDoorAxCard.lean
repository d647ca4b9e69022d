/-
  EvlogNil: the row and its card.
-/
import Derived.Test.YtjpcmbamjignnaaGreatDoorAxSaid
import Derived.Test.YtjpcmbamjignnaaGreatDoorTie
namespace Go.Proofs.YtjpcmbamjignnaaGreatDoor
open Go Go.ChangeShapes Go.WideShapes Go.ChangeAt Go.RowKit
set_option maxRecDepth 100000

theorem plain (f : FuncId) (fn : Func) (hf : Tryz.pinned.checked.prog.funcNamed "equerry/equerrylaw17.EvlogNil" = some f) (hfn : Tryz.pinned.checked.prog.funcs[f]? = some fn) :
    false = Tryz.pinned.checked.prog.looks [] ∧ ∀ (j : Nat) t, fn.params[j]? = some t → Tryz.pinned.checked.prog.wantsStandIn t = false := by
  obtain rfl : f = 6 := Option.some.inj ((show Tryz.prog.funcNamed "equerry/equerrylaw17.EvlogNil" = some 6 by kernel_rfl).symm.trans hf) |>.symm
  obtain rfl : fn = Tryz.f6 := (Option.some.inj (Tryz.func6.symm.trans hfn)).symm
  refine ⟨by kernel_rfl, fun j t ht => ?_⟩
  rw [Tryz.params6] at ht
  obtain rfl : t = 90 := by simpa using Array.mem_of_getElem? ht
  exact (show Tryz.prog.wantsStandIn 90 = false by kernel_rfl)

theorem evlogNil_card : Rows.EvlogNilCardSaid :=
  Claim7.holds_tied_plain_at .later [] _ _ _ _ said (fun _ h => by cases h) (by kernel_rfl) (fun _ h => by cases h) evlogNil_row_tie rfl ⟨rfl, rfl⟩ (by kernel_rfl) rfl plain (by kernel_rfl)
end Go.Proofs.YtjpcmbamjignnaaGreatDoor
