/-
  AE: more rounds change nothing in what is answered.
-/
import Derived.Test.YtlcfmdedkkmnmaaGreatDoorAxSym
namespace Go.Ax

def CallLE (c c' : CallF) : Prop := ∀ f a σ r, c f a σ = some r → c' f a σ = some r

section
variable {E : Env} {c c' : CallF}

theorem callA_mono (h : CallLE c c') {σ : Sig} {f : AV} {args : List AV} {r : AV × Sig} (e : callA E c σ f args = some r) : callA E c' σ f args = some r := by
  cases f with
  | func f first captured =>
    cases hx : E.ext f with
    | some g => simp only [callA, hx] at e ⊢; exact e
    | none => simp only [callA, hx] at e ⊢; exact h _ _ _ _ e
  | _ => simp [callA] at e

theorem evalE_mono (h : CallLE c c') {fn fid : Nat} {dst : Option Tmp} {M : Mem} {ρ : Operand → Option AV} {op : Op} {r : AV × Mem} (e : evalE E c fn fid dst M ρ op = some r) :
    evalE E c' fn fid dst M ρ op = some r := by
  cases op with
  | call cl =>
    obtain ⟨callee, args, argTypes⟩ := cl
    cases callee with
    | value f =>
      simp only [evalE] at e ⊢
      cases hv : ρ f with
      | none => simp [hv] at e
      | some v =>
        cases ha : vals ρ args.toList with
        | none => simp [hv, ha] at e
        | some as =>
          simp only [hv, ha] at e ⊢
          cases hc : callA E c M.sig v as with
          | none => simp [hc] at e
          | some x =>
            rw [callA_mono h hc]
            rw [hc] at e
            exact e
    | invoke r m => exact e
    | builtin b => cases b <;> exact e
  | makeMap t x => cases x <;> exact e
  | next it b => cases b <;> exact e
  | _ => exact e

theorem evalOp_mono (h : CallLE c c') {fn fid : Nat} {dst : Option Tmp} {M : Mem} {ρ : Operand → Option AV} {op : Op} {r : AV × Mem} (e : evalOp E c fn fid dst M ρ op = some r) :
    evalOp E c' fn fid dst M ρ op = some r := by
  unfold evalOp at e ⊢
  split at e
  · exact e
  · exact e
  · exact evalE_mono h e

theorem stepOp_mono (h : CallLE c c') {ops : Array Oper} {fr : Frm} {σ : Sig} {o : Oper} {r : Frm × Sig} (e : stepOp E c ops fr σ o = some r) : stepOp E c' ops fr σ o = some r := by
  unfold stepOp at e ⊢
  cases hs : fr.inSlots o.dst with
  | false => simp [hs] at e
  | true =>
    simp only [hs, if_true] at e ⊢
    cases hw : wantedA ops fr o with
    | none => simp [hw] at e
    | some b =>
      cases b with
      | false => simp only [hw] at e ⊢; exact e
      | true =>
        simp only [hw] at e ⊢
        cases hv : evalOp E c fr.fn fr.fid o.dst ⟨fr.locs, σ⟩ fr.val o.op with
        | none => simp [hv] at e
        | some x =>
          rw [evalOp_mono h hv]
          rw [hv] at e
          exact e

theorem evalOps_mono (h : CallLE c c') {ops : Array Oper} : ∀ {l : List Oper} {fr : Frm} {σ : Sig} {r : Frm × Sig}, evalOps E c ops l fr σ = some r → evalOps E c' ops l fr σ = some r
  | [], _, _, _, e => e
  | o :: l, fr, σ, r, e => by
    unfold evalOps at e ⊢
    split at e
    · rename_i fr1 σ1 hs
      rw [stepOp_mono h hs]
      exact evalOps_mono h e
    · simp at e

theorem evalTrace_mono (h : CallLE c c') {ops : Array Oper} : ∀ {l : List Oper} {fr : Frm} {σ : Sig} {ms : List Mem} {r : Frm × Sig × List Mem}, evalTrace E c ops l fr σ ms = some r → evalTrace E c' ops l fr σ ms = some r
  | [], _, _, _, _, e => e
  | o :: l, fr, σ, ms, r, e => by
    unfold evalTrace at e ⊢
    split at e
    · rename_i fr1 σ1 hs
      rw [stepOp_mono h hs]
      exact evalTrace_mono h e
    · simp at e

theorem evalDrawn_mono (h : CallLE c c') {ops : Array Oper} {plan : List (Nat × Nat × Nat)} {fr : Frm} {σ : Sig} {r : Frm × Sig} (e : evalDrawn E c ops plan fr σ = some r) : evalDrawn E c' ops plan fr σ = some r := by
  unfold evalDrawn at e ⊢
  split at e
  · simp at e
  · rename_i fr1 σ1 h1
    rw [evalOps_mono h h1]
    simp only
    split at e
    · simp at e
    · rename_i fr2 σ2 ms h2
      rw [evalTrace_mono h h2]
      exact e

theorem callWith_mono {run run' : Code → Frm → Sig → Option (AEx × Frm × Sig)} (h : ∀ c fr σ r, run c fr σ = some r → run' c fr σ = some r) : CallLE (callWith E run) (callWith E run') := by
  intro f a σ r e
  unfold callWith at e ⊢
  cases ho : E.ov f with
  | some g => simp only [ho] at e ⊢; exact e
  | none =>
    simp only [ho] at e ⊢
    cases hf : E.fn f with
    | none => simp [hf] at e
    | some fn =>
      simp only [hf] at e ⊢
      cases hb : fn.body with
      | none => simp [hb] at e
      | some co =>
        simp only [hb] at e ⊢
        cases hr : run co { fid := σ.nfr, fn := f, nt := max fn.ntmps a.length, tmps := argTmps a 0 } { σ with nfr := σ.nfr + 1 } with
        | none => simp [hr] at e
        | some x =>
          rw [h _ _ _ _ hr]
          rw [hr] at e
          exact e

theorem exec_mono : ∀ (n : Nat) (co : Code) (fr : Frm) (σ : Sig) (r : AEx × Frm × Sig), exec E n co fr σ = some r → exec E (n + 1) co fr σ = some r := by
  intro n
  induction n with
  | zero => intro co fr σ r e; simp [exec] at e
  | succ n ih =>
    intro co fr σ r e
    have hc : CallLE (callWith E (exec E n)) (callWith E (exec E (n + 1))) := callWith_mono ih
    cases co with
    | region id ops draw =>
      cases draw with
      | false =>
        rw [exec_region] at e ⊢
        split at e
        · rename_i h1
          rw [evalOps_mono hc h1]
          exact e
        · simp at e
      | true =>
        rw [exec_drawn] at e ⊢
        split at e
        · rename_i h1
          rw [evalDrawn_mono hc h1]
          exact e
        · simp at e
    | seq a b =>
      rw [exec_seq] at e ⊢
      cases ha : exec E n a fr σ with
      | none => simp [ha] at e
      | some x =>
        obtain ⟨x, fr1, σ1⟩ := x
        rw [ih _ _ _ _ ha]
        rw [ha] at e
        cases x with
        | normal => exact ih _ _ _ _ e
        | exit i => exact e
        | ret => exact e
    | cond x a b =>
      rw [exec_cond] at e ⊢
      split at e
      · rename_i h1
        exact ih _ _ _ _ e
      · exact ih _ _ _ _ e
      · simp at e
    | block id a =>
      rw [exec_block] at e ⊢
      cases ha : exec E n a fr σ with
      | none => simp [ha] at e
      | some x =>
        rw [ih _ _ _ _ ha]
        rw [ha] at e
        exact e
    | loop a =>
      rw [exec_loop] at e ⊢
      cases ha : exec E n a fr σ with
      | none => simp [ha] at e
      | some x =>
        obtain ⟨x, fr1, σ1⟩ := x
        rw [ih _ _ _ _ ha]
        rw [ha] at e
        cases x with
        | normal => exact ih _ _ _ _ e
        | exit i => exact e
        | ret => exact e
    | scope a =>
      rw [exec_scope] at e ⊢
      exact ih _ _ _ _ e
    | skip => exact e
    | label l => exact e
    | exit i => exact e
    | ret => exact e
    | _ => simp [exec] at e

theorem exec_more {n m : Nat} (h : n ≤ m) {co : Code} {fr : Frm} {σ : Sig} {r : AEx × Frm × Sig} (e : exec E n co fr σ = some r) : exec E m co fr σ = some r := by
  obtain ⟨k, rfl⟩ := Nat.exists_eq_add_of_le h
  clear h
  induction k with
  | zero => exact e
  | succ k ih => exact exec_mono _ _ _ _ _ ih

theorem call_more {n m : Nat} (h : n ≤ m) {f : FuncId} {args : List AV} {σ : Sig} {r : AV × Sig} (e : call E n f args σ = some r) : call E m f args σ = some r :=
  callWith_mono (fun _ _ _ _ h' => exec_more h h') _ _ _ _ e

/-- A loop whose rounds are counted. -/
theorem loop_run {B : Code} {K N id : Nat} (Inv : Nat → Frm → Sig → Prop) (Q : Frm → Sig → Prop)
    (step : ∀ i fr σ, i < N → Inv i fr σ → ∃ fr' σ', exec E K B fr σ = some (.normal, fr', σ') ∧ Inv (i + 1) fr' σ')
    (fin : ∀ fr σ, Inv N fr σ → ∃ fr' σ', exec E K B fr σ = some (.exit id, fr', σ') ∧ Q fr' σ') :
    ∀ d i fr σ, i + d = N → Inv i fr σ → ∃ fr' σ', exec E (K + d + 1) (.loop B) fr σ = some (.exit id, fr', σ') ∧ Q fr' σ' := by
  intro d
  induction d with
  | zero =>
    intro i fr σ hi h
    have : i = N := by omega
    subst this
    obtain ⟨fr', σ', h1, h2⟩ := fin fr σ h
    exact ⟨fr', σ', by rw [Nat.add_zero, exec_loop, h1], h2⟩
  | succ d ih =>
    intro i fr σ hi h
    obtain ⟨fr1, σ1, h1, h2⟩ := step i fr σ (by omega) h
    obtain ⟨fr', σ', h3, h4⟩ := ih (i + 1) fr1 σ1 (by omega) h2
    refine ⟨fr', σ', ?_, h4⟩
    rw [show K + (d + 1) + 1 = (K + d + 1) + 1 by omega, exec_loop, exec_more (by omega) h1]
    exact h3
end
end Go.Ax
