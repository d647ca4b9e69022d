/-
  AE: a region whose order is drawn (second part).
-/
import Derived.Test.YtlcfmdedkkmnmaaGreatDoorAxDrawn
namespace Go.Ax

/-- What the look at a region says. -/
structure Shape (E : Env) (fn : FuncId) (ops : Array Oper) (plan : List (Nat × Nat × Nat)) : Prop where
  dirs : ∀ (i : Nat) (o : Oper), ops[i]? = some o → ∀ j ∈ directs o, j < i
  ownG : ∀ (i : Nat) (o : Oper), ops[i]? = some o → ownAlloc E fn o = true → o.guard = none
  dst : ∀ (i j : Nat) (o q : Oper) (u : Tmp), ops[i]? = some o → ops[j]? = some q → i ≠ j → q.dst = some u → o.dst ≠ some u
  conf : ∀ (i j : Nat) (o q : Oper) (u : Tmp), ops[i]? = some o → ops[j]? = some q → q.dst = some u → u ∈ o.looksAt ops → (ownAlloc E fn q = true → Bef ops i j) ∧ (ownAlloc E fn q = false → i = j ∨ Bef ops i j ∨ Bef ops j i)
  chain : ∀ (i j : Nat) (o q : Oper), ops[i]? = some o → ops[j]? = some q → isAct E fn o = true → isAct E fn q = true → j < i → Bef ops i j
  reads : ∀ (i : Nat) (o : Oper), ops[i]? = some o → clsOf E o.op = .l → ∃ b1 b2 : Nat → Bool, (∀ j, b1 j = true → Bef ops i j) ∧ (∀ j, b2 j = true → Bef ops j i) ∧
    ((List.range ops.size).countP (fun j => isAct E fn (ops.getD j default) && b1 j) = (List.range ops.size).countP (fun j => isAct E fn (ops.getD j default) && !b2 j) ∨
      (∃ x ∈ plan, x.1 = i ∧ x.2.1 ≤ (List.range ops.size).countP (fun j => isAct E fn (ops.getD j default) && b1 j) ∧ (List.range ops.size).countP (fun j => isAct E fn (ops.getD j default) && !b2 j) ≤ x.2.2) ∧
        ∀ (j : Nat) (q : Oper) (u : Tmp), ops[j]? = some q → q.dst = some u → u ∈ o.looksAt ops → Bef ops i j)

theorem getD_of {ops : Array Oper} {i : Nat} {o : Oper} (h : ops[i]? = some o) : ops.getD i default = o := by
  rw [Array.getD_eq_getD_getElem?, h]; rfl
theorem lt_of_get {ops : Array Oper} {i : Nat} {o : Oper} (h : ops[i]? = some o) : i < ops.size := (Array.getElem?_eq_some_iff.1 h).1

theorem drawOK_shape {E : Env} {fn : FuncId} {ops : Array Oper} {plan : List (Nat × Nat × Nat)} (h : drawOK E fn ops plan = true) : Shape E fn ops plan := by
  have hb : ∀ i j, ((masks ops.toList []).getD i 0).testBit j = true → Bef ops i j :=
    masks_bef ops ops.toList [] (fun k o hk => by simpa using hk) (fun i j hb => by simp at hb)
  unfold drawOK at h
  simp only [List.all_eq_true, List.mem_range, Bool.and_eq_true] at h
  refine ⟨fun i o hi j hj => ?_, fun i o hi ho => ?_, fun i j o q u hi hj hij hu => ?_, fun i j o q u hi hj hu hl => ?_, fun i j o q hi hj h1 h2 hlt => ?_, fun i o hi hc => ?_⟩
  · have := (h i (lt_of_get hi)).1.1.1
    rw [getD_of hi] at this
    simpa using this j hj
  · have := (h i (lt_of_get hi)).1.1.2
    rw [getD_of hi, ho] at this
    simpa using this
  · have := ((h i (lt_of_get hi)).1.2 j (lt_of_get hj)).1.1
    rw [getD_of hi, getD_of hj, hu] at this
    simp only [beq_iff_eq, Bool.or_eq_true, bne_iff_ne, Option.isNone_some, Bool.false_eq_true, or_false] at this
    rcases this with e | e
    · exact absurd e hij
    · exact e
  · have := ((h i (lt_of_get hi)).1.2 j (lt_of_get hj)).1.2
    rw [getD_of hi, getD_of hj, hu] at this
    have hcon : (o.looksAt ops).contains u = true := by simpa using hl
    simp only [hcon, Bool.not_true, Bool.false_or] at this
    refine ⟨fun ho => ?_, fun ho => ?_⟩
    · rw [ho, if_pos rfl] at this; exact hb _ _ this
    · rw [ho, if_neg (by simp)] at this
      simp only [Bool.or_eq_true, beq_iff_eq] at this
      rcases this with (e | e) | e
      · exact .inl e
      · exact .inr (.inl (hb _ _ e))
      · exact .inr (.inr (hb _ _ e))
  · have := ((h i (lt_of_get hi)).1.2 j (lt_of_get hj)).2
    rw [getD_of hi, getD_of hj, h1, h2] at this
    simp only [hlt, decide_true, Bool.and_self, Bool.not_true, Bool.false_or] at this
    exact hb _ _ this
  · have := (h i (lt_of_get hi)).2
    rw [getD_of hi, hc] at this
    simp only [bne_self_eq_false, Bool.false_or, Bool.or_eq_true, beq_iff_eq, Bool.and_eq_true, List.any_eq_true, List.all_eq_true, List.mem_range, decide_eq_true_eq] at this
    refine ⟨fun j => ((masks ops.toList []).getD i 0).testBit j, fun j => ((masks ops.toList []).getD j 0).testBit i, fun j hj => hb _ _ hj, fun j hj => hb _ _ hj, ?_⟩
    rcases this with e | ⟨⟨x, hx, ⟨e1, e2⟩, e3⟩, e4⟩
    · exact .inl e
    · refine .inr ⟨⟨x, hx, e1, e2, e3⟩, fun j q u hj hu hl => ?_⟩
      have := e4 j (lt_of_get hj)
      rw [getD_of hj, hu] at this
      have hcon : (o.looksAt ops).contains u = true := by simpa using hl
      simp only [hcon, Bool.not_true, Bool.false_or] at this
      exact hb _ _ this

section
variable {P : Program} {E : Env} {call : CallF} {ops : Array Oper}

/-- The text's own order, gone through: one's own variables, the rest, the memories. -/
structure Canon (E : Env) (call : CallF) (ops : Array Oper) (fr fr1 fr' : Frm) (σ σ' : Sig) (tr : Nat → Frm × Sig) (MS : List Mem) : Prop where
  head : fr1.fid = fr.fid ∧ fr1.fn = fr.fn ∧ fr1.nt = fr.nt
  other : ∀ u, (∀ (i : Nat) (o : Oper), ops[i]? = some o → ownAlloc E fr.fn o = true → o.dst ≠ some u) → fr1.tmps.get u = fr.tmps.get u ∧ fr1.locs.get u = fr.locs.get u
  own : ∀ (i : Nat) (o : Oper), ops[i]? = some o → ownAlloc E fr.fn o = true → ∃ u e ti, o.dst = some u ∧ o.op = .alloc e ∧ E.ti e = some ti ∧ u < fr.nt ∧ fr1.tmps.get u = some (.loc fr.fid u (nextGen fr.locs u) 0) ∧ fr1.locs.get u = some (nextGen fr.locs u, .cells ti.zero)
  start : tr 0 = (fr1, σ)
  step : ∀ p o, (ops.toList.filter fun o => !ownAlloc E fr.fn o)[p]? = some o → stepOp E call ops (tr p).1 (tr p).2 o = some (tr (p + 1))
  last : tr (ops.toList.filter fun o => !ownAlloc E fr.fn o).length = (fr', σ')
  mems : ∀ p, p ≤ (ops.toList.filter fun o => !ownAlloc E fr.fn o).length → MS[((ops.toList.filter fun o => !ownAlloc E fr.fn o).take p).countP (fun o => clsOf E o.op == .e)]? = some ⟨(tr p).1.locs, (tr p).2⟩

theorem toList_range (ops : Array Oper) : ops.toList = (List.range ops.size).map (ops.getD · default) := by
  apply List.ext_getElem?
  intro i
  by_cases h : i < ops.size
  · simp [h, Array.getD]
  · simp [h]

theorem evalDrawn_canon {plan : List (Nat × Nat × Nat)} {fr fr' : Frm} {σ σ' : Sig} (hs : Shape E fr.fn ops plan) (h : evalDrawn E call ops plan fr σ = some (fr', σ')) :
    ∃ fr1 tr MS, Canon E call ops fr fr1 fr' σ σ' tr MS ∧ MS[0]? = some ⟨fr1.locs, σ⟩ ∧ plan.all (sameRead E ops fr' MS) = true := by
  unfold evalDrawn at h
  split at h
  · simp at h
  · rename_i fr1 σ1 h1
    have hpw : (ops.toList.filter (ownAlloc E fr.fn)).Pairwise (fun a b => a.dst ≠ b.dst) := by
      have hr : (List.range ops.size).Pairwise (· < ·) := List.pairwise_lt_range
      rw [toList_range, List.filter_map, List.pairwise_map]
      refine List.Pairwise.imp_of_mem ?_ (hr.filter _)
      intro i j hi hj hlt
      simp only [List.mem_filter, List.mem_range, Function.comp] at hi hj
      have e1 : ops[i]? = some (ops.getD i default) := by simp [Array.getD, hi.1]
      have e2 : ops[j]? = some (ops.getD j default) := by simp [Array.getD, hj.1]
      intro e
      have ho := hj.2
      unfold ownAlloc at ho
      split at ho
      · rename_i _ u _ hd
        exact hs.dst i j _ _ u e1 e2 (by omega) hd (e.trans hd)
      · simp at ho
    obtain ⟨r1, r2, r3, r4, r5, r6⟩ := allocs_run (fn := fr.fn) h1 rfl (fun o ho => by
      simp only [List.mem_filter] at ho
      obtain ⟨i, hi, rfl⟩ := List.getElem_of_mem ho.1
      exact ⟨ho.2, hs.ownG i _ (by simp) ho.2⟩) hpw
    subst r1
    split at h
    · simp at h
    · rename_i fr2 σ2 ms h2
      split at h
      · rename_i hplan
        simp only [Option.some.injEq, Prod.mk.injEq] at h
        obtain ⟨rfl, rfl⟩ := h
        rw [r3] at h2
        obtain ⟨tr, new, t0, t1, t2, t3, t4⟩ := trace_run h2
        have hrev : ms.reverse = ⟨fr1.locs, σ1⟩ :: new.reverse := by rw [t3]; simp
        rw [← hrev] at t4
        have memf : ∀ (i : Nat) (o : Oper), ops[i]? = some o → ownAlloc E fr.fn o = true → o ∈ ops.toList.filter (ownAlloc E fr.fn) := fun i o hi ho =>
          List.mem_filter.2 ⟨List.mem_of_getElem? (i := i) (by simpa using hi), ho⟩
        refine ⟨fr1, tr, ms.reverse, ⟨⟨r2, r3, r4⟩, fun u hu => r5 u fun o ho => ?_, fun i o hi ho => r6 o (memf i o hi ho), t0, t1, t2, t4⟩, by rw [hrev]; rfl, hplan⟩
        simp only [List.mem_filter] at ho
        obtain ⟨i, hi, rfl⟩ := List.getElem_of_mem ho.1
        exact hu i _ (by simp) ho.2
      · simp at h

/-- Where an operation stands in the rest. -/
theorem rest_at (E : Env) (fn : FuncId) {i : Nat} {o : Oper} (hi : ops[i]? = some o) (ho : ownAlloc E fn o = false) :
    ∃ p, (ops.toList.filter fun o => !ownAlloc E fn o)[p]? = some o ∧ ((ops.toList.filter fun o => !ownAlloc E fn o).take p).countP (fun o => clsOf E o.op == .e) = (List.range i).countP (fun j => isAct E fn (ops.getD j default)) ∧
      ∀ q, (∀ x, (ops.toList.filter fun o => !ownAlloc E fn o)[q]? = some x → ∃ j, ops[j]? = some x ∧ ownAlloc E fn x = false ∧ ((q < p → j < i) ∧ (p < q → i < j))) := by
  have hlt := lt_of_get hi
  have hq : (fun j => !ownAlloc E fn (ops.getD j default)) i = true := by simp [getD_of hi, ho]
  obtain ⟨s1, s2⟩ := sieve_at (fun j => !ownAlloc E fn (ops.getD j default)) ops.size i hlt hq
  have hl : (ops.toList.filter fun o => !ownAlloc E fn o) = ((List.range ops.size).filter fun j => !ownAlloc E fn (ops.getD j default)).map (ops.getD · default) := by
    conv => lhs; rw [toList_range]
    rw [List.filter_map]; rfl
  refine ⟨((List.range i).filter fun j => !ownAlloc E fn (ops.getD j default)).length, ?_, ?_, fun q x hx => ?_⟩
  · rw [hl, List.getElem?_map, s1]
    simp only [Option.map_some, getD_of hi]
  · rw [hl, ← List.map_take, s2, List.countP_map, List.countP_filter]
    refine List.countP_congr fun j _ => ?_
    simp [isAct]
  · rw [hl, List.getElem?_map] at hx
    cases hj : ((List.range ops.size).filter fun j => !ownAlloc E fn (ops.getD j default))[q]? with
    | none => rw [hj] at hx; simp at hx
    | some j =>
      rw [hj] at hx
      simp only [Option.map_some, Option.some.injEq] at hx
      have hmem := List.mem_of_getElem? hj
      simp only [List.mem_filter, List.mem_range, Bool.not_eq_true'] at hmem
      have hpw : ((List.range ops.size).filter fun j => !ownAlloc E fn (ops.getD j default)).Pairwise (· < ·) := List.pairwise_lt_range.filter _
      refine ⟨j, by rw [← hx]; simp [Array.getD, hmem.1], by rw [← hx]; exact hmem.2, fun hqp => ?_, fun hpq => ?_⟩
      · obtain ⟨a1, a2⟩ := List.getElem?_eq_some_iff.1 hj
        obtain ⟨b1, b2⟩ := List.getElem?_eq_some_iff.1 s1
        have := List.pairwise_iff_getElem.1 hpw q _ a1 b1 hqp
        rw [a2, b2] at this; exact this
      · obtain ⟨a1, a2⟩ := List.getElem?_eq_some_iff.1 hj
        obtain ⟨b1, b2⟩ := List.getElem?_eq_some_iff.1 s1
        have := List.pairwise_iff_getElem.1 hpw _ q b1 a1 hpq
        rw [a2, b2] at this; exact this
end
end Go.Ax
