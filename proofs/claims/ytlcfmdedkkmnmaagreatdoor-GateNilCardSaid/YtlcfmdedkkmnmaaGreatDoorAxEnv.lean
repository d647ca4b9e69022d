/-
  AE at this seat: the environment is right.
-/
import Derived.Test.YtlcfmdedkkmnmaaGreatDoorAxSeat
import Derived.KernelRfl
namespace Go.Ax.Seat
open Go Go.Proofs
set_option maxRecDepth 100000

theorem tab_checks : tabOK Tryz.prog tab tab.keys = true := by kernel_rfl
theorem tab_fields : fieldsOK tab = true := by kernel_rfl
theorem names_check : (Tryz.prog.funcs.toList.all fun fn => !(fn.name == "runtime.NumGoroutine")) = true := by kernel_rfl
theorem codes_check : ((List.range Tryz.prog.funcs.size).all fun f => match Tryz.prog.funcs[f]? with
  | some fn => match fn.body with
    | some c => codeOK E0 f c
    | none => true
  | none => true) = true := by kernel_rfl
theorem globs_ok : GlobsOK E0 := by
  intro g cells h
  simp only [E0, globs] at h
  split at h
  · simp only [Option.some.injEq] at h
    subst h
    exact ⟨by kernel_rfl, by kernel_rfl⟩
  · split at h
    · simp only [Option.some.injEq] at h
      subst h
      exact ⟨by kernel_rfl, by kernel_rfl⟩
    · simp at h
theorem fields_of : FieldsOK E0 := fun _ _ _ ht hk _ hx => fields_ok tab_fields ht hk hx
theorem code_ok : CodeOK E0 := by
  intro f fn c hf hc
  have hf : Tryz.prog.funcs[f]? = some fn := hf
  have := List.all_eq_true.1 codes_check f (List.mem_range.2 (Array.getElem?_eq_some_iff.1 hf).1)
  simp only [hf, hc] at this
  exact this
theorem f64_ok (args : List AV) (v : AV) (h : f64from args = some v) (Γ : Gh) (w : World) (cargs : Array Value) (ha : VsRel Γ w args cargs.toList) : ∃ cv, (callFunc 311 cargs).run Tryz.prog w = .ok (.value cv) w ∧ VRel Γ w v cv := by
  unfold f64from at h
  split at h
  · rename_i n
    simp only [Option.some.injEq] at h
    subst h
    obtain ⟨l⟩ := cargs
    cases ha with
    | cons h1 r =>
      cases r
      cases h1
      exact ⟨.float .f64 n.toNat, by kernel_rfl, .float _ _⟩
  · simp at h
end Go.Ax.Seat
