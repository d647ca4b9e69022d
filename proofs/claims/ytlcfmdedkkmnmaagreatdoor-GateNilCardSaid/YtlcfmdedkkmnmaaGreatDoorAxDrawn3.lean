/-
  AE: a region whose order is drawn (third part): one operation more, whichever is ready.
-/
import Derived.Test.YtlcfmdedkkmnmaaGreatDoorAxDrawn2
namespace Go.Ax
section
variable {P : Program} {E : Env} {call : CallF} {ops : Array Oper} {plan : List (Nat × Nat × Nat)} {fr fr1 fr' : Frm} {σ σ' : Sig} {tr : Nat → Frm × Sig} {MS : List Mem}

/-- What stands in a slot, some operations done. -/
def Tv (ops : Array Oper) (fr fr' : Frm) (L : Nat → Bool) (u : Tmp) : Option AV :=
  if (List.range ops.size).any (fun j => L j && decide ((ops.getD j default).dst = some u)) then fr'.tmps.get u else fr.tmps.get u

theorem tv_yes {L : Nat → Bool} {u : Tmp} {j : Nat} {q : Oper} (hj : ops[j]? = some q) (hL : L j = true) (hd : q.dst = some u) : Tv ops fr fr' L u = fr'.tmps.get u := by
  unfold Tv
  rw [if_pos]
  rw [List.any_eq_true]
  exact ⟨j, List.mem_range.2 (lt_of_get hj), by simp only [hL, getD_of hj, hd, decide_true, Bool.and_self]⟩

theorem tv_no {L : Nat → Bool} {u : Tmp} (h : ∀ (j : Nat) (q : Oper), ops[j]? = some q → L j = true → q.dst ≠ some u) : Tv ops fr fr' L u = fr.tmps.get u := by
  unfold Tv
  rw [if_neg]
  intro ha
  rw [List.any_eq_true] at ha
  obtain ⟨j, hj, ha⟩ := ha
  simp only [Bool.and_eq_true, decide_eq_true_eq] at ha
  have hlt := List.mem_range.1 hj
  have e : ops[j]? = some (ops.getD j default) := by simp [Array.getD, hlt]
  exact h j _ e ha.1 ha.2

theorem tv_set {L : Nat → Bool} {i : Nat} {o : Oper} (hi : ops[i]? = some o) (u : Tmp) :
    Tv ops fr fr' (fun j => if j = i then true else L j) u = if o.dst = some u then fr'.tmps.get u else Tv ops fr fr' L u := by
  split
  · rename_i hd
    exact tv_yes hi (by simp) hd
  · rename_i hd
    by_cases hex : ∃ (j : Nat) (q : Oper), ops[j]? = some q ∧ L j = true ∧ q.dst = some u
    · obtain ⟨j, q, h1, h2, h3⟩ := hex
      rw [tv_yes h1 h2 h3]
      refine tv_yes h1 ?_ h3
      by_cases e : j = i
      · simp [e]
      · simp [e, h2]
    · have h0 : ∀ (j : Nat) (q : Oper), ops[j]? = some q → L j = true → q.dst ≠ some u := fun j q h1 h2 h3 => hex ⟨j, q, h1, h2, h3⟩
      rw [tv_no h0]
      refine tv_no fun j q h1 h2 h3 => ?_
      by_cases e : j = i
      · subst e
        rw [hi] at h1
        simp only [Option.some.injEq] at h1
        subst h1
        exact hd h3
      · simp only [e, if_false] at h2
        exact h0 j q h1 h2 h3

/-- How many acts are done. -/
def acts (E : Env) (fn : FuncId) (ops : Array Oper) (L : Nat → Bool) : Nat := (List.range ops.size).countP fun j => isAct E fn (ops.getD j default) && L j

/-- The world, some operations done. -/
def DInv (E : Env) (ops : Array Oper) (fr fr' : Frm) (σ : Sig) (MS : List Mem) (Γ0 : Gh) (w0 : World) (ds : List Deferred) (L : Nat → Bool) (a : Act) (w : World) : Prop :=
  ∃ Γ M, MS[acts E fr.fn ops L]? = some M ∧ Ext fr.fid Γ0 w0 Γ w ∧ a.defers = ds ∧ (∀ u v, Tv ops fr fr' L u = some v → ∃ c, a.tmps[u]? = some c ∧ VRel Γ w v c) ∧ a.tmps.size = fr.nt ∧
    RepS E Γ M.sig w ∧ RepL fr.fid Γ M.locs w ∧ σ.nfr ≤ M.sig.nfr ∧
    ∀ (i : Nat) (o : Oper) (u : Tmp) (e : TypeId) (ti : TI), ops[i]? = some o → L i = false → ownAlloc E fr.fn o = true → o.dst = some u → o.op = .alloc e → E.ti e = some ti →
      Γ.loc fr.fid u (nextGen fr.locs u) = none ∧ M.locs.get u = some (nextGen fr.locs u, .cells ti.zero)

/-- What the text's own order has of an operation that is no variable's laying. -/
theorem canon_at (hs : Shape E fr.fn ops plan) (hc : Canon E call ops fr fr1 fr' σ σ' tr MS) {i : Nat} {o : Oper} (hi : ops[i]? = some o) (ho : ownAlloc E fr.fn o = false) :
    ∃ frp σp frq σq, stepOp E call ops frp σp o = some (frq, σq) ∧ frp.fid = fr.fid ∧ frp.fn = fr.fn ∧ frp.nt = fr.nt ∧
      MS[(List.range i).countP (fun j => isAct E fr.fn (ops.getD j default))]? = some ⟨frp.locs, σp⟩ ∧
      MS[(List.range i).countP (fun j => isAct E fr.fn (ops.getD j default)) + (if isAct E fr.fn o then 1 else 0)]? = some ⟨frq.locs, σq⟩ ∧
      (∀ u, o.dst = some u → frq.tmps.get u = fr'.tmps.get u) ∧
      (∀ u j q, ops[j]? = some q → q.dst = some u → (ownAlloc E fr.fn q = true ∨ j < i) → frp.tmps.get u = fr'.tmps.get u) ∧
      (∀ u, (∀ (j : Nat) (q : Oper), ops[j]? = some q → q.dst = some u → ownAlloc E fr.fn q = false ∧ i ≤ j) → frp.tmps.get u = fr.tmps.get u) := by
  obtain ⟨p, hp, hcnt, hpos⟩ := rest_at E fr.fn hi ho
  have hplt : p < (ops.toList.filter fun o => !ownAlloc E fr.fn o).length := (List.getElem?_eq_some_iff.1 hp).1
  have hfrm := trace_frame hc.step p (by omega)
  rw [hc.start] at hfrm
  have hact : isAct E fr.fn o = (clsOf E o.op == .e) := by simp [isAct, ho]
  have hm1 := hc.mems p (by omega)
  have hm2 := hc.mems (p + 1) (by omega)
  have htake : ((ops.toList.filter fun o => !ownAlloc E fr.fn o).take (p + 1)).countP (fun o => clsOf E o.op == .e) = ((ops.toList.filter fun o => !ownAlloc E fr.fn o).take p).countP (fun o => clsOf E o.op == .e) + (if isAct E fr.fn o then 1 else 0) := by
    rw [List.take_add_one, hp, hact]
    simp [List.countP_append, List.countP_cons]
  rw [hcnt] at hm1 htake
  rw [htake] at hm2
  refine ⟨(tr p).1, (tr p).2, (tr (p + 1)).1, (tr (p + 1)).2, hc.step p o hp, hfrm.1.trans hc.head.1, hfrm.2.1.trans hc.head.2.1, hfrm.2.2.trans hc.head.2.2, hm1, hm2, fun u hu => ?_, fun u j q hj hu hor => ?_, fun u hall => ?_⟩
  · -- behind it nobody writes its slot
    have := trace_tmps hc.step ((ops.toList.filter fun o => !ownAlloc E fr.fn o).length - (p + 1)) (p + 1) (by omega) u fun q x h1 _ hx hxu => by
      obtain ⟨j, hj, _, _, hgt⟩ := hpos q x hx
      exact hs.dst i j o x u hi hj (by have := hgt (by omega); omega) hxu hu
    have e : p + 1 + ((ops.toList.filter fun o => !ownAlloc E fr.fn o).length - (p + 1)) = (ops.toList.filter fun o => !ownAlloc E fr.fn o).length := by omega
    rw [e, hc.last] at this
    exact this.symm
  · have := trace_tmps hc.step ((ops.toList.filter fun o => !ownAlloc E fr.fn o).length - p) p (by omega) u fun k x h1 _ hx hxu => by
      obtain ⟨j', hj', hx', _, hgt⟩ := hpos k x hx
      by_cases e : j = j'
      · subst e
        rw [hj] at hj'
        simp only [Option.some.injEq] at hj'
        subst hj'
        rcases hor with h | h
        · rw [hx'] at h; simp at h
        · rcases Nat.lt_or_ge p k with hk | hk
          · have := hgt hk; omega
          · have : k = p := by omega
            subst this
            rw [hp] at hx
            simp only [Option.some.injEq] at hx
            subst hx
            -- then it is the operation itself, which stands at i
            exact hs.dst i j o o u hi hj (by omega) hxu hxu
      · exact hs.dst j j' q x u hj hj' e hxu hu
    have e : p + ((ops.toList.filter fun o => !ownAlloc E fr.fn o).length - p) = (ops.toList.filter fun o => !ownAlloc E fr.fn o).length := by omega
    rw [e, hc.last] at this
    exact this.symm
  · have := trace_tmps hc.step p 0 (by omega) u fun k x _ h2 hx hxu => by
      obtain ⟨j', hj', hx', hlt', _⟩ := hpos k x hx
      have := hlt' (by omega)
      have := (hall j' x hj' hxu).2
      omega
    rw [Nat.zero_add, hc.start] at this
    rw [this]
    exact (hc.other u fun j q hj hq hu => by have := (hall j q hj hu).1; rw [hq] at this; simp at this).1

theorem looks_operand {o : Oper} {t : Tmp} (h : Operand.tmp t ∈ o.op.operands) : t ∈ o.looksAt ops := by
  unfold Oper.looksAt
  refine List.mem_append_left _ (List.mem_filterMap.2 ⟨.tmp t, by simpa using h, rfl⟩)

theorem looks_guard {o q : Oper} {g : Nat} {want : Bool} {d : Tmp} (hg : o.guard = some (g, want)) (hq : ops[g]? = some q) (hd : q.dst = some d) : d ∈ o.looksAt ops := by
  unfold Oper.looksAt
  refine List.mem_append_right _ ?_
  simp [hg, hq, hd]

/-- Whether an operation is wanted, of slots that are the same where it looks. -/
theorem wantedA_congr {f g : Frm} {o : Oper} (h : ∀ u, u ∈ o.looksAt ops → f.tmps.get u = g.tmps.get u) : wantedA ops f o = wantedA ops g o := by
  unfold wantedA
  cases hg : o.guard with
  | none => rfl
  | some x =>
    obtain ⟨j, want⟩ := x
    simp only
    cases hq : ops[j]? with
    | none => rfl
    | some q =>
      simp only
      cases hd : q.dst with
      | none => rfl
      | some d => simp only [h d (looks_guard hg hq hd)]

theorem wanted_rel' {Γ : Gh} {w : World} {a : Act} {f : Frm} {o : Oper} {b : Bool} (h : wantedA ops f o = some b) (hT : ∀ u v, u ∈ o.looksAt ops → f.tmps.get u = some v → ∃ c, a.tmps[u]? = some c ∧ VRel Γ w v c) :
    Region.wanted o (yielded ops a.tmps) = b := by
  unfold wantedA at h
  unfold Region.wanted
  split at h
  · rename_i hg
    simp only [Option.some.injEq] at h
    simp [hg, ← h]
  · rename_i j want hg
    simp only [hg]
    split at h
    · simp at h
    · rename_i q hq
      split at h
      · simp at h
      · rename_i d hd
        have hy : yielded ops a.tmps j = match a.tmps[d]? with
          | some (.bool b) => some b
          | _ => none := by simp only [yielded, hq, hd, Option.bind_some]; rfl
        rw [hy]
        have hl := looks_guard hg hq hd
        split at h
        · rename_i x hx
          obtain ⟨c, h1, h2⟩ := hT d _ hl hx
          rw [vrel_bool_inv h2] at h1
          simp only [Option.some.injEq] at h
          subst h
          simp [h1]
        · rename_i x hnb hx
          obtain ⟨c, h1, h2⟩ := hT d _ hl hx
          simp only [Option.some.injEq] at h
          subst h
          rw [h1]
          have : ∀ b, c ≠ .bool b := by
            intro b e; subst e
            cases h2
            exact hnb _ rfl
          cases c <;> simp_all
        · simp at h
end
end Go.Ax
