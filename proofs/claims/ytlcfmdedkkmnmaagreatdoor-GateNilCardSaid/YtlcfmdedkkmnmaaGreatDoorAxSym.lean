/-
  AE: rules to reckon with what is not known, by 'simp only'.
-/
import Derived.Test.YtlcfmdedkkmnmaaGreatDoorAxIso
namespace Go.Ax
section
variable {E : Env} {fr : Frm} {σ : Sig} {call : CallF}

theorem exec_skip (n : Nat) : exec E (n + 1) .skip fr σ = some (.normal, fr, σ) := rfl
theorem exec_label (n l : Nat) : exec E (n + 1) (.label l) fr σ = some (.normal, fr, σ) := rfl
theorem exec_exit (n id : Nat) : exec E (n + 1) (.exit id) fr σ = some (.exit id, fr, σ) := rfl
theorem exec_ret (n : Nat) : exec E (n + 1) .ret fr σ = some (.ret, fr, σ) := rfl
theorem exec_region (n id : Nat) (ops : Array Oper) : exec E (n + 1) (.region id ops false) fr σ = (match evalOps E (callWith E (exec E n)) ops ops.toList fr σ with
  | some (fr, σ) => some (.normal, fr, σ)
  | none => none) := rfl
theorem exec_drawn (n id : Nat) (ops : Array Oper) : exec E (n + 1) (.region id ops true) fr σ = (match evalDrawn E (callWith E (exec E n)) ops (E.plan fr.fn id) fr σ with
  | some (fr, σ) => some (.normal, fr, σ)
  | none => none) := rfl
theorem exec_seq (n : Nat) (a b : Code) : exec E (n + 1) (.seq a b) fr σ = (match exec E n a fr σ with
  | some (.normal, fr, σ) => exec E n b fr σ
  | r => r) := rfl
theorem exec_cond (n : Nat) (c : Operand) (a b : Code) : exec E (n + 1) (.cond c a b) fr σ = (match fr.val c with
  | some (.bool true) => exec E n a fr σ
  | some (.bool false) => exec E n b fr σ
  | _ => none) := rfl
theorem exec_block (n id : Nat) (a : Code) : exec E (n + 1) (.block id a) fr σ = (match exec E n a fr σ with
  | some (.exit i, fr, σ) => if i = id then some (.normal, fr, σ) else some (.exit i, fr, σ)
  | r => r) := rfl
theorem exec_loop (n : Nat) (a : Code) : exec E (n + 1) (.loop a) fr σ = (match exec E n a fr σ with
  | some (.normal, fr, σ) => exec E n (.loop a) fr σ
  | r => r) := rfl
theorem exec_scope (n : Nat) (a : Code) : exec E (n + 1) (.scope a) fr σ = exec E n a fr σ := rfl

theorem evalOps_cons (ops : Array Oper) (o : Oper) (rest : List Oper) : evalOps E call ops (o :: rest) fr σ = (match stepOp E call ops fr σ o with
  | some (fr, σ) => evalOps E call ops rest fr σ
  | none => none) := rfl
theorem evalOps_nil (ops : Array Oper) : evalOps E call ops [] fr σ = some (fr, σ) := rfl

/-- An operation that is wanted always, of the first make. -/
theorem stepP {ops : Array Oper} {op : Op} {d : Tmp} {ty : TypeId} {pos : String} {es : Array Edge} (hc : clsOf E op = .p) (hd : d < fr.nt) {v : AV} (hv : evalP E fr.val op = some v) :
    stepOp E call ops fr σ ⟨some d, op, ty, pos, es, none⟩ = some ({ fr with tmps := fr.tmps.set d v }, σ) := by
  simp only [stepOp, Frm.inSlots, hd, decide_true, if_true, wantedA, evalOp, hc, hv, Option.map_some, Frm.put]

theorem binA_lss (t : TypeId) (k : IntKind) (a b : Int) : binA E .lss t (.int k a) (.int k b) = some (.bool (decide (a < b))) := by simp [binA, intOp]
theorem binA_leq (t : TypeId) (k : IntKind) (a b : Int) : binA E .leq t (.int k a) (.int k b) = some (.bool (decide (a ≤ b))) := by simp [binA, intOp]
theorem binA_gtr (t : TypeId) (k : IntKind) (a b : Int) : binA E .gtr t (.int k a) (.int k b) = some (.bool (decide (b < a))) := by simp [binA, intOp]
theorem binA_geq (t : TypeId) (k : IntKind) (a b : Int) : binA E .geq t (.int k a) (.int k b) = some (.bool (decide (b ≤ a))) := by simp [binA, intOp]
theorem binA_eql (t : TypeId) (k : IntKind) (a b : Int) : binA E .eql t (.int k a) (.int k b) = some (.bool (a == b)) := by simp [binA, intOp]
theorem binA_neq (t : TypeId) (k : IntKind) (a b : Int) : binA E .neq t (.int k a) (.int k b) = some (.bool (a != b)) := by simp [binA, intOp]
theorem binA_add (t : TypeId) (k : IntKind) (a b : Int) : binA E .add t (.int k a) (.int k b) = some (.int k (k.wrap (a + b))) := by simp [binA, intOp]
theorem binA_sub (t : TypeId) (k : IntKind) (a b : Int) : binA E .sub t (.int k a) (.int k b) = some (.int k (k.wrap (a - b))) := by simp [binA, intOp]
theorem binA_mul (t : TypeId) (k : IntKind) (a b : Int) : binA E .mul t (.int k a) (.int k b) = some (.int k (k.wrap (a * b))) := by simp [binA, intOp]

theorem cut_one {cs : List AV} {off : Nat} {v : AV} (h : cs[off]? = some v) : cut cs off 1 = some [v] := by
  obtain ⟨hl, rfl⟩ := List.getElem?_eq_some_iff.1 h
  have h1 : off + 1 ≤ cs.length := hl
  simp only [cut, h1, if_true, Option.some.injEq]
  apply List.ext_getElem
  · simp; omega
  · intro i hi1 hi2
    simp at hi2
    subst hi2
    simp

/-- One cell out of a row. -/
theorem loadA_ro_one {fid : Nat} {M : Mem} {t : TypeId} {ti : TI} {cs : List AV} {off : Nat} {v : AV} (ht : E.ti t = some ti) (hk : ti.kind.agg = false) (h : cs[off]? = some v) : loadA E fid M t (.ro cs off) = some v := by
  simp only [loadA, ht, readAt, hk, Bool.false_eq_true, if_false, cut_one h, TI.ofCells]

/-- Many cells out of a row. -/
theorem loadA_ro_agg {fid : Nat} {M : Mem} {t : TypeId} {ti : TI} {cs l : List AV} {off : Nat} (ht : E.ti t = some ti) (hk : ti.kind.agg = true) (h : cut cs off ti.size = some l) : loadA E fid M t (.ro cs off) = some (.agg l) := by
  simp only [loadA, ht, readAt, hk, if_true, h, TI.ofCells]

theorem wrap_i64 {n : Int} (h0 : 0 ≤ n) (h : n < 2 ^ 63) : IntKind.i64.wrap n = n := by
  simp only [IntKind.wrap, IntKind.bits, IntKind.signed]
  first | (simp; omega) | (split <;> omega) | omega
end
end Go.Ax
