/-
  EvlogNil: the closed facts of its row.
-/
import Derived.Test.YtjpcmbamjignnaaGreatDoorRows
import Derived.KernelRfl
import Derived.JoinedCond
namespace Go.Proofs.YtjpcmbamjignnaaGreatDoor
open Go Go.ChangeShapes Go.WideShapes Go.ChangeAt
set_option maxRecDepth 100000
set_option maxHeartbeats 4000000

theorem evlogNil_at : Tryz.pinned.checked.prog.funcNamed Rows.evlogNilRow.func = some 6 := by kernel_rfl
theorem evlogNil_closed : joinedFacts Tryz.pinned.checked.prog 6 Tryz.f6 (OpenSpec.ofChange Rows.evlogNilSpec).bare Rows.evlogNilRow = true := by
  unfold joinedFacts
  repeat' (with_reducible refine Bool.and_eq_true_iff.2 ⟨?_, ?_⟩)
  all_goals (as_aux_lemma => kernel_rfl)
theorem evlogNil_inst : Tryz.f6.isInstance Tryz.pinned.checked.prog Rows.evlogNilRow.origin Rows.evlogNilRow.targs := of_decide_eq_true (by kernel_rfl)
theorem evlogNil_wrap : Tryz.f6.isWrapper Tryz.pinned.checked.prog Rows.evlogNilRow.wrapper Rows.evlogNilRow.mainSum := by
  unfold Func.isWrapper
  first | (rw [if_pos (by decide +kernel)]; kernel_rfl) | (rw [if_neg (by decide +kernel)]; exact ⟨rfl, rfl⟩)
end Go.Proofs.YtjpcmbamjignnaaGreatDoor
