/-
  GateNil: the closed facts of its row.
-/
import Derived.Test.YtlcfmdedkkmnmaaGreatDoorRows
import Derived.KernelRfl
import Derived.JoinedCond
namespace Go.Proofs.YtlcfmdedkkmnmaaGreatDoor
open Go Go.ChangeShapes Go.WideShapes Go.ChangeAt
set_option maxRecDepth 100000
set_option maxHeartbeats 4000000

theorem gateNil_at : Tryz.pinned.checked.prog.funcNamed Rows.gateNilRow.func = some 3 := by kernel_rfl
theorem gateNil_closed : joinedFacts Tryz.pinned.checked.prog 3 Tryz.f3 (OpenSpec.ofChange Rows.gateNilSpec).bare Rows.gateNilRow = true := by
  unfold joinedFacts
  repeat' (with_reducible refine Bool.and_eq_true_iff.2 ⟨?_, ?_⟩)
  all_goals (as_aux_lemma => kernel_rfl)
theorem gateNil_inst : Tryz.f3.isInstance Tryz.pinned.checked.prog Rows.gateNilRow.origin Rows.gateNilRow.targs := of_decide_eq_true (by kernel_rfl)
theorem gateNil_wrap : Tryz.f3.isWrapper Tryz.pinned.checked.prog Rows.gateNilRow.wrapper Rows.gateNilRow.mainSum := by
  unfold Func.isWrapper
  first | (rw [if_pos (by decide +kernel)]; kernel_rfl) | (rw [if_neg (by decide +kernel)]; exact ⟨rfl, rfl⟩)
end Go.Proofs.YtlcfmdedkkmnmaaGreatDoor
