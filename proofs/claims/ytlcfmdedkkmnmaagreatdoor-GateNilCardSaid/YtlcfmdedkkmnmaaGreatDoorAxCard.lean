/-
  GateNil: the row and its card.
-/
import Derived.Test.YtlcfmdedkkmnmaaGreatDoorAxSaid
import Derived.Test.YtlcfmdedkkmnmaaGreatDoorAxFacts2
import Derived.Test.YtlcfmdedkkmnmaaGreatDoorTie
namespace Go.Proofs.YtlcfmdedkkmnmaaGreatDoor
open Go Go.ChangeShapes Go.WideShapes Go.ChangeAt Go.RowKit
set_option maxRecDepth 100000

theorem plain (f : FuncId) (fn : Func) (hf : Tryz.pinned.checked.prog.funcNamed Rows.gateNilRow.func = some f) (hfn : Tryz.pinned.checked.prog.funcs[f]? = some fn) :
    true = Tryz.pinned.checked.prog.looks [] ∧ ∀ (j : Nat) t, fn.params[j]? = some t → Tryz.pinned.checked.prog.wantsStandIn t = false := by
  obtain rfl : f = 3 := Option.some.inj (gateNil_at.symm.trans hf) |>.symm
  obtain rfl : fn = Tryz.f3 := (Option.some.inj (Tryz.func3.symm.trans hfn)).symm
  refine ⟨card_looks, fun j t ht => ?_⟩
  rw [Tryz.params3] at ht
  exact card_plain t (by simpa using Array.mem_of_getElem? ht)

theorem gateNil_card : Rows.GateNilCardSaid :=
  Claim7.holds_tied_plain_at .later [] _ _ _ _ said (fun _ h => by cases h) card_wf (fun _ h => by cases h) gateNil_row_tie rfl ⟨rfl, rfl⟩ card_main rfl plain card_goes
end Go.Proofs.YtlcfmdedkkmnmaaGreatDoor
