/-
  AE at this seat: the first environment is right.
-/
import Derived.Test.YtlcfmdedkkmnmaaGreatDoorAxList2
import Derived.Test.YtlcfmdedkkmnmaaGreatDoorAxEnv
namespace Go.Ax.Seat
open Go Go.Proofs

theorem codeOK_ov (E : Env) (o : FuncId → Option (List AV → Sig → Option (AV × Sig))) (f : FuncId) (c : Code) : codeOK { E with ov := o } f c = codeOK E f c := by
  induction c with
  | region id ops draw => cases draw <;> rfl
  | seq a b iha ihb => simp only [codeOK, iha, ihb]
  | cond c a b iha ihb => simp only [codeOK, iha, ihb]
  | block id a ih => simp only [codeOK, ih]
  | loop a ih => simp only [codeOK, ih]
  | scope a ih => simp only [codeOK, ih]
  | _ => rfl

theorem CodeOK.ov {E : Env} (h : CodeOK E) (o : FuncId → Option (List AV → Sig → Option (AV × Sig))) : CodeOK { E with ov := o } := fun f fn c hf hc => by
  rw [codeOK_ov]; exact h f fn c hf hc

theorem e0_ok : EnvOK Tryz.prog E0 where
  ti t ti h := tab_ok tab_checks h
  fn f fn h := by
    have h : Tryz.prog.funcs[f]? = some fn := h
    refine ⟨h, ?_⟩
    have := List.all_eq_true.1 names_check fn (List.mem_of_getElem? (by rw [Array.getElem?_toList]; exact h))
    simpa using this
  ov f h e := by
    have e : (if f = 235 then some usedA else if f = 48 then some listA else none) = some h := e
    split at e
    · rename_i hf
      subst hf
      obtain rfl := Option.some.inj e
      exact used_ok
    · split at e
      · rename_i hf
        subst hf
        obtain rfl := Option.some.inj e
        exact list_ok
      · simp at e
  ext f h e args v hv Γ w cargs ha := by
    have e : (if f = 311 then some f64from else none) = some h := e
    split at e
    · rename_i hf
      subst hf
      obtain rfl := Option.some.inj e
      exact f64_ok args v hv Γ w cargs ha
    · simp at e
  flat t h := by simp [E0] at h
  mixed := by kernel_rfl

theorem call0_ok (n : Nat) : CallOK Tryz.prog E0 (call E0 n) := call_ok e0_ok fields_of code_ok n
end Go.Ax.Seat
