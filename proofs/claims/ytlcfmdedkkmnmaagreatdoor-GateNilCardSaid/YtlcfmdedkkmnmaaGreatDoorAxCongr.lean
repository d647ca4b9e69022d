/-
  AE: an operation hangs on its operands alone; of which make it is says what it touches.
-/
import Derived.Test.YtlcfmdedkkmnmaaGreatDoorAxSeq
namespace Go.Ax
section
variable {E : Env} {ρ ρ' : Operand → Option AV}

theorem vals_congr : ∀ {l : List Operand}, (∀ x ∈ l, ρ x = ρ' x) → vals ρ l = vals ρ' l
  | [], _ => rfl
  | x :: l, h => by simp only [vals, h x (by simp), vals_congr (l := l) fun y hy => h y (by simp [hy])]

theorem pvals_congr : ∀ {l : List (Nat × Operand)}, (∀ x ∈ l, ρ x.2 = ρ' x.2) → pvals ρ l = pvals ρ' l
  | [], _ => rfl
  | (i, x) :: l, h => by simp only [pvals, h (i, x) (by simp), pvals_congr (l := l) fun y hy => h y (by simp [hy])]

theorem oval_congr {x : Option Operand} (h : ∀ y, x = some y → ρ y = ρ' y) : oval ρ x = oval ρ' x := by
  cases x with
  | none => rfl
  | some y => simp only [oval, h y rfl]

theorem evalP_congr {op : Op} (h : ∀ x ∈ op.operands, ρ x = ρ' x) : evalP E ρ op = evalP E ρ' op := by
  cases op <;> simp only [Op.operands] at h
  case move x => exact h x (by simp)
  case assign x => exact h x (by simp)
  case makeMap t r => cases r <;> rfl
  case pick c a b => simp only [evalP, h c (by simp), h a (by simp), h b (by simp)]
  case build t ps => simp only [evalP, pvals_congr (ρ := ρ) (ρ' := ρ') (l := ps.toList) fun x hx => h x.2 (by simpa using ⟨x.1, by simpa using hx⟩)]
  case buildSlice t n ps => simp only [evalP, pvals_congr (ρ := ρ) (ρ' := ρ') (l := ps.toList) fun x hx => h x.2 (by simpa using ⟨x.1, by simpa using hx⟩)]
  case nilCheck x => simp only [evalP, h x (by simp)]
  case binOp op t x y u => simp only [evalP, h x (by simp), h y (by simp)]
  case unOp op t x => simp only [evalP, h x (by simp)]
  case convert s d x => simp only [evalP, h x (by simp)]
  case makeInterface t x => simp only [evalP, h x (by simp)]
  case makeFunc fn first captured =>
    cases fn <;> try rfl
    simp only [evalP, vals_congr (ρ := ρ) (ρ' := ρ') (l := first.toList) fun x hx => h x (by simp; exact .inl (by simpa using hx)),
      vals_congr (ρ := ρ) (ρ' := ρ') (l := captured.toList) fun x hx => h x (by simp; exact .inr (by simpa using hx))]
  case slice t x lo hi mx =>
    simp only [evalP, h x (by simp), oval_congr (ρ := ρ) (ρ' := ρ') (x := lo) fun y hy => h y (by simp [hy]), oval_congr (ρ := ρ) (ρ' := ρ') (x := hi) fun y hy => h y (by simp [hy]),
      oval_congr (ρ := ρ) (ρ' := ρ') (x := mx) fun y hy => h y (by simp [hy])]
  case fieldAddr t x f => simp only [evalP, h x (by simp)]
  case field t x f => simp only [evalP, h x (by simp)]
  case indexAddr t x i => simp only [evalP, h x (by simp), h i (by simp)]
  case index t x i => simp only [evalP, h x (by simp), h i (by simp)]
  case extract x i => simp only [evalP, h x (by simp)]
  case call c =>
    obtain ⟨callee, args, ats⟩ := c
    cases callee with
    | builtin b =>
      simp only [Call.operands] at h
      have h' : ∀ x ∈ args, ρ x = ρ' x := fun x hx => h x (by simp [hx])
      cases b <;> try rfl
      · -- len
        simp only [evalP]
        cases h0 : ats[0]? with
        | none => rfl
        | some t =>
          cases h1 : args[0]? with
          | none => rfl
          | some x => simp only [h' x (Array.mem_of_getElem? h1)]
      all_goals simp only [evalP, vals_congr (ρ := ρ) (ρ' := ρ') (l := args.toList) fun x hx => h' x (by simpa using hx)]
    | value f => rfl
    | invoke r m => rfl
  all_goals rfl

theorem evalL_congr {fid : Nat} {M : Mem} {op : Op} (h : ∀ x ∈ op.operands, ρ x = ρ' x) : evalL E fid M ρ op = evalL E fid M ρ' op := by
  cases op <;> simp only [Op.operands] at h
  case load t x => simp only [evalL, h x (by simp)]
  case lookup t x i ok => simp only [evalL, h x (by simp), h i (by simp)]
  case call c =>
    obtain ⟨callee, args, ats⟩ := c
    cases callee with
    | builtin b =>
      simp only [Call.operands] at h
      have h' : ∀ x ∈ args, ρ x = ρ' x := fun x hx => h x (by simp [hx])
      cases b <;> try rfl
      simp only [evalL]
      cases h0 : ats[0]? with
      | none => rfl
      | some t =>
        cases h1 : args[0]? with
        | none => rfl
        | some x => simp only [h' x (Array.mem_of_getElem? h1)]
    | value f => rfl
    | invoke r m => rfl
  all_goals rfl

theorem evalE_congr {call : CallF} {fn fid : Nat} {dst : Option Tmp} {M : Mem} {op : Op} (h : ∀ x ∈ op.operands, ρ x = ρ' x) : evalE E call fn fid dst M ρ op = evalE E call fn fid dst M ρ' op := by
  cases op <;> simp only [Op.operands] at h
  case box e x => simp only [evalE, h x (by simp)]
  case store t x y => simp only [evalE, h x (by simp), h y (by simp)]
  case makeSlice t l c => simp only [evalE, h l (by simp), h c (by simp)]
  case makeMap t r => cases r <;> rfl
  case mapUpdate t m k x => simp only [evalE, h m (by simp), h k (by simp), h x (by simp)]
  case range t x => simp only [evalE, h x (by simp)]
  case next it b => cases b <;> simp only [evalE, h it (by simp)]
  case call c =>
    obtain ⟨callee, args, ats⟩ := c
    simp only [Call.operands] at h
    have h' : ∀ x ∈ args, ρ x = ρ' x := fun x hx => h x (by simp [hx])
    have hv := vals_congr (ρ := ρ) (ρ' := ρ') (l := args.toList) fun x hx => h' x (by simpa using hx)
    cases callee with
    | builtin b => cases b <;> (try rfl) <;> simp only [evalE, hv]
    | value f => simp only [evalE, hv, h f (by simp)]
    | invoke r m => rfl
  all_goals rfl

theorem evalOp_congr {call : CallF} {fn fid : Nat} {dst : Option Tmp} {M : Mem} {op : Op} (h : ∀ x ∈ op.operands, ρ x = ρ' x) : evalOp E call fn fid dst M ρ op = evalOp E call fn fid dst M ρ' op := by
  unfold evalOp
  rw [evalP_congr h, evalL_congr h, evalE_congr h]

/-- Only acts change memory. -/
theorem evalOp_still {call : CallF} {fn fid : Nat} {dst : Option Tmp} {M M' : Mem} {op : Op} {v : AV} (hc : clsOf E op ≠ .e) (h : evalOp E call fn fid dst M ρ op = some (v, M')) : M' = M := by
  unfold evalOp at h
  split at h
  · cases he : evalP E ρ op with
    | none => simp [he] at h
    | some x => simp only [he, Option.map_some, Option.some.injEq, Prod.mk.injEq] at h; exact h.2.symm
  · split at h
    · simp only [Option.some.injEq, Prod.mk.injEq] at h; exact h.2.symm
    · cases he : evalP E ρ op with
      | none => simp [he] at h
      | some x => simp only [he, Option.map_some, Option.some.injEq, Prod.mk.injEq] at h; exact h.2.symm
  · rename_i he; exact absurd he hc

/-- What looks at no memory comes to the same over any. -/
theorem evalOp_pure {call call' : CallF} {fn fid : Nat} {dst : Option Tmp} {M M' N : Mem} {op : Op} {v : AV} (hc : clsOf E op = .p) (h : evalOp E call fn fid dst M ρ op = some (v, M')) :
    evalOp E call' fn fid dst N ρ op = some (v, N) := by
  unfold evalOp at h ⊢
  simp only [hc] at h ⊢
  cases he : evalP E ρ op with
  | none => simp [he] at h
  | some x => simp only [he, Option.map_some, Option.some.injEq, Prod.mk.injEq] at h; simp [h.1]

/-- What reads calls nothing. -/
theorem evalOp_read {call call' : CallF} {fn fid : Nat} {dst : Option Tmp} {M M' : Mem} {op : Op} {v : AV} (hc : clsOf E op = .l) (h : evalOp E call fn fid dst M ρ op = some (v, M')) :
    evalOp E call' fn fid dst M ρ op = some (v, M') := by
  unfold evalOp at h ⊢
  simp only [hc] at h ⊢
  exact h
end

end Go.Ax
