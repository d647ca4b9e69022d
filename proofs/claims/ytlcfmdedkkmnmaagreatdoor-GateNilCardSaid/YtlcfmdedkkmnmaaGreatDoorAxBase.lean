/-
  AE at this seat: an environment in which nothing stands for a function, and no variable is known: right in every world.
-/
import Derived.Test.YtlcfmdedkkmnmaaGreatDoorAxEnv
namespace Go.Ax.Seat
open Go Go.Proofs

noncomputable def EB : Env := { E0 with ov := fun _ => none, ext := fun _ => none, globs := fun _ => none }

theorem codeOK_bare (E : Env) (o : FuncId → Option (List AV → Sig → Option (AV × Sig))) (x : FuncId → Option (List AV → Option AV)) (g : Nat → Option (List AV)) (f : FuncId) (c : Code) : codeOK { E with ov := o, ext := x, globs := g } f c = codeOK E f c := by
  induction c with
  | region id ops draw => cases draw <;> rfl
  | seq a b iha ihb => simp only [codeOK, iha, ihb]
  | cond c a b iha ihb => simp only [codeOK, iha, ihb]
  | block id a ih => simp only [codeOK, ih]
  | loop a ih => simp only [codeOK, ih]
  | scope a ih => simp only [codeOK, ih]
  | _ => rfl

theorem eb_ok : EnvOK Tryz.prog EB where
  ti t ti h := tab_ok tab_checks h
  fn f fn h := by
    have h : Tryz.prog.funcs[f]? = some fn := h
    refine ⟨h, ?_⟩
    have := List.all_eq_true.1 names_check fn (List.mem_of_getElem? (by rw [Array.getElem?_toList]; exact h))
    simpa using this
  ov f h e := by cases e
  ext f h e := by cases e
  flat t h := by simp [EB, E0] at h
  mixed := by kernel_rfl

theorem callB_ok (n : Nat) : CallOK Tryz.prog EB (call EB n) :=
  call_ok eb_ok fields_of (fun f fn c hf hc => by unfold EB; rw [codeOK_bare]; exact code_ok f fn c hf hc) n

theorem repB (w : World) : RepS EB Gh.none {} w where
  obj id b e := by simp [Gh.none] at e
  objNew _ _ := rfl
  loc f t g b e := by simp [Gh.none] at e
  locNew _ _ _ _ := rfl
  tok g n b off _ e := by simp [Gh.none] at e
  tokNew _ _ _ := rfl
  tokTop _ _ _ _ _ := rfl
  fresh _ _ := rfl
  glob g cells e := by cases e

theorem over_trans {w w' w'' : World} (h : Over w w') (h' : Over w' w'') : Over w w'' :=
  ⟨fun b hb => (h'.old b (Nat.lt_of_lt_of_le hb h.size)).trans (h.old b hb), Nat.le_trans h.size h'.size, h'.os.trans h.os, h'.output.trans h.output⟩

/-- A closed run of a function on values of which nothing is shared. -/
theorem closed_calls {n : Nat} {f : FuncId} {args : List AV} {v : AV} {σ' : Sig} (h : call EB n f args {} = some (v, σ')) (w : World) {cargs : Array Value} (ha : VsRel Gh.none w args cargs.toList) :
    Calls Tryz.prog f cargs w fun e w' => ∃ cv Γ', e = .returned cv ∧ Over w w' ∧ VRel Γ' w' v cv := by
  refine ((callB_ok n f args {} v σ' h).2 Gh.none w cargs (repB w) ha).mono ?_
  rintro e w' ⟨cv, Γ', rfl, hx, _, hv, _⟩
  exact ⟨cv, Γ', rfl, ⟨fun b hb => (hx.foreign b hb rfl).2, hx.size, hx.os, hx.output⟩, hv⟩
end Go.Ax.Seat
