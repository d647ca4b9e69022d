/-
  GateNil: the closed facts of its card.
-/
import Derived.Test.YtlcfmdedkkmnmaaGreatDoorAxFacts
import Derived.Test.YtlcfmdedkkmnmaaGreatDoorCards
namespace Go.Proofs.YtlcfmdedkkmnmaaGreatDoor
open Go Go.ChangeShapes Go.WideShapes Go.ChangeAt
set_option maxRecDepth 100000
set_option maxHeartbeats 4000000

theorem card_wf : Rows.gateNilRow.wfByText (OpenSpec.ofChange Rows.gateNilSpec) = true := by kernel_rfl
theorem card_main : Tryz.pinned.checked.prog.mainIs = some (Rows.gateNilCard.stood.harness.1, Rows.gateNilCard.stood.harness.2.toList) := by kernel_rfl
theorem card_looks : true = Tryz.pinned.checked.prog.looks [] := by kernel_rfl
theorem funcs_go1 : (Tryz.prog.funcs.toList.take 150).any Func.goes = false := by kernel_rfl
theorem funcs_go2 : ((Tryz.prog.funcs.toList.drop 150).take 150).any Func.goes = false := by kernel_rfl
theorem funcs_go3 : ((Tryz.prog.funcs.toList.drop 150).drop 150).any Func.goes = false := by kernel_rfl
theorem funcs_go : Tryz.prog.funcs.any Func.goes = false := by
  rw [← Array.any_toList, ← List.take_append_drop 150 Tryz.prog.funcs.toList, List.any_append, funcs_go1, Bool.false_or, ← List.take_append_drop 150 (Tryz.prog.funcs.toList.drop 150), List.any_append, funcs_go2, funcs_go3]
  rfl
theorem goes_of {P : Program} {f : FuncId} (h : P.funcs.any Func.goes = false) : P.goes f = false := by
  unfold Program.goes
  rw [h, Bool.and_false, Bool.or_false, List.any_eq_false]
  intro g _
  cases hx : P.funcs[g]? with
  | none => simp
  | some fn =>
    rw [← Array.any_toList, List.any_eq_false] at h
    have hm : fn ∈ P.funcs.toList := by
      rw [← Array.getElem?_toList] at hx
      exact List.mem_of_getElem? hx
    simpa using h fn hm
theorem card_goes : false = Rows.gateNilRow.goesBy Tryz.pinned.checked.prog := by
  have hg : Tryz.pinned.checked.prog.goes 3 = false := goes_of funcs_go
  unfold OpenClaim.goesBy Program.goesAt Program.goesFrom
  rw [gateNil_at]
  simp [hg, show Rows.gateNilRow.start = .entering from rfl]
theorem card_plain (t : TypeId) (h : t ∈ ([22, 23, 24, 24] : List TypeId)) : Tryz.pinned.checked.prog.wantsStandIn t = false := by
  have hall : ([22, 23, 24, 24] : List TypeId).all (fun t => !Tryz.pinned.checked.prog.wantsStandIn t) = true := by kernel_rfl
  simpa using List.all_eq_true.1 hall t h
end Go.Proofs.YtlcfmdedkkmnmaaGreatDoor
