/-
  AE: a region whose order is drawn: whatever the order, it comes to what AE says (AE lays one's own variables first, then goes in the text's order, and looks again at reads that acts may overtake).
-/
import Derived.Test.YtlcfmdedkkmnmaaGreatDoorAxCongr
namespace Go.Ax

/-- What an operation waits for at once. -/
def directs (o : Oper) : List Nat := o.after.toList.filterMap fun e => if Region.binds .any e then some e.on else none

/-- What each operation waits for, as bits. -/
def masks : List Oper → List Nat → List Nat
  | [], acc => acc
  | o :: os, acc => masks os (acc ++ [(directs o).foldl (fun s j => s ||| 2 ^ j ||| acc.getD j 0) 0])

def isAct (E : Env) (fn : FuncId) (o : Oper) : Bool := clsOf E o.op == .e && !ownAlloc E fn o

/-- May a region be drawn so that it is all one? -/
def drawOK (E : Env) (fn : FuncId) (ops : Array Oper) (plan : List (Nat × Nat × Nat)) : Bool :=
  let bs := masks ops.toList []
  let bef (i j : Nat) : Bool := (bs.getD i 0).testBit j
  let op (i : Nat) : Oper := ops.getD i default
  let ix := List.range ops.size
  ix.all fun i =>
    (directs (op i)).all (fun j => decide (j < i)) &&
    (!ownAlloc E fn (op i) || (op i).guard.isNone) &&
    (ix.all fun j =>
      (i == j || (op j).dst.isNone || (op i).dst != (op j).dst) &&
      (match (op j).dst with
        | none => true
        | some d => !((op i).looksAt ops).contains d || (if ownAlloc E fn (op j) then bef i j else i == j || bef i j || bef j i)) &&
      (!(isAct E fn (op i) && isAct E fn (op j) && decide (j < i)) || bef i j)) &&
    (clsOf E (op i).op != .l ||
      (let lo := ix.countP fun j => isAct E fn (op j) && bef i j
       let hi := ix.countP fun j => isAct E fn (op j) && !bef j i
       lo == hi || ((plan.any fun x => x.1 == i && decide (x.2.1 ≤ lo) && decide (hi ≤ x.2.2)) &&
         ix.all fun j => match (op j).dst with
           | none => true
           | some d => !((op i).looksAt ops).contains d || bef i j)))

/-- One operation waits for another. -/
inductive Bef (ops : Array Oper) : Nat → Nat → Prop where
  | edge {i j o} (h : ops[i]? = some o) (hj : j ∈ directs o) : Bef ops i j
  | trans {i j k} (h : Bef ops i j) (h' : Bef ops j k) : Bef ops i k

theorem foldl_bits (f : Nat → Nat) : ∀ (l : List Nat) (s b : Nat), (l.foldl (fun s j => s ||| 2 ^ j ||| f j) s).testBit b = true → s.testBit b = true ∨ ∃ j ∈ l, j = b ∨ (f j).testBit b = true
  | [], s, b, h => .inl h
  | j :: l, s, b, h => by
    rcases foldl_bits f l _ b h with h | ⟨k, hk, h⟩
    · simp only [Nat.testBit_or, Bool.or_eq_true, Nat.testBit_two_pow, decide_eq_true_eq] at h
      rcases h with (h | h) | h
      · exact .inl h
      · exact .inr ⟨j, by simp, .inl h⟩
      · exact .inr ⟨j, by simp, .inr h⟩
    · exact .inr ⟨k, by simp [hk], h⟩

theorem masks_bef (ops : Array Oper) : ∀ (os : List Oper) (acc : List Nat), (∀ k o, os[k]? = some o → ops[acc.length + k]? = some o) → (∀ i j, (acc.getD i 0).testBit j = true → Bef ops i j) →
    ∀ i j, ((masks os acc).getD i 0).testBit j = true → Bef ops i j
  | [], acc, _, h, i, j, hb => h i j hb
  | o :: os, acc, hos, h, i, j, hb => by
    refine masks_bef ops os _ (fun k o' hk => ?_) (fun i j hb => ?_) i j hb
    · have := hos (k + 1) o' (by simpa using hk)
      simpa [Nat.add_assoc, Nat.add_comm 1 k] using this
    · rw [List.getD_eq_getElem?_getD, List.getElem?_append] at hb
      split at hb
      · rw [← List.getD_eq_getElem?_getD] at hb
        exact h i j hb
      · rename_i hi
        by_cases he : i - acc.length = 0
        · have hi' : i = acc.length := by omega
          subst hi'
          have ho : ops[acc.length]? = some o := by simpa using hos 0 o rfl
          simp only [Nat.sub_self, List.getElem?_cons_zero, Option.getD_some] at hb
          rcases foldl_bits _ _ _ _ hb with h0 | ⟨k, hk, h1⟩
          · simp at h0
          · rcases h1 with rfl | h1
            · exact .edge ho hk
            · exact .trans (.edge ho hk) (h k j h1)
        · have : ([(directs o).foldl (fun s j => s ||| 2 ^ j ||| acc.getD j 0) 0] : List Nat)[i - acc.length]? = none := by
            apply List.getElem?_eq_none; simp; omega
          rw [this] at hb
          simp at hb

/-- The order of the text serves. -/
theorem Bef.lt {ops : Array Oper} (hd : ∀ i o, ops[i]? = some o → ∀ j ∈ directs o, j < i) {i j : Nat} (h : Bef ops i j) : j < i := by
  induction h with
  | edge h hj => exact hd _ _ h _ hj
  | trans _ _ ih ih' => omega

theorem Bef.closed {ops : Array Oper} {L : Nat → Bool} (hc : ∀ i o, L i = true → ops[i]? = some o → ∀ j ∈ directs o, L j = true) {i j : Nat} (h : Bef ops i j) : L i = true → L j = true := by
  induction h with
  | edge h hj => exact fun hi => hc _ _ hi h _ hj
  | trans _ _ ih ih' => exact fun hi => ih' (ih hi)

/-- What is before what one is ready for has been done. -/
theorem Bef.ready {ops : Array Oper} {L : Nat → Bool} (hc : ∀ i o, L i = true → ops[i]? = some o → ∀ j ∈ directs o, L j = true) {i : Nat} (hr : ∀ o, ops[i]? = some o → ∀ j ∈ directs o, L j = true) {j : Nat} (h : Bef ops i j) : L j = true := by
  induction h with
  | edge h hj => exact hr _ h _ hj
  | trans h h' ih ih' => exact h'.closed hc (ih hr)

/-- Of a set of numbers below n that one number more has come to. -/
theorem countP_set (f g : Nat → Bool) (i : Nat) (hfi : f i = false) (hgi : g i = true) (hne : ∀ j, j ≠ i → f j = g j) : ∀ n, i < n → (List.range n).countP g = (List.range n).countP f + 1
  | 0, h => by omega
  | n + 1, h => by
    rw [List.range_succ, List.countP_append, List.countP_append]
    by_cases hi : i = n
    · subst hi
      have : (List.range i).countP g = (List.range i).countP f := List.countP_congr fun x hx => by
        simp at hx; rw [hne x (by omega)]
      simp [this, hfi, hgi]
    · rw [countP_set f g i hfi hgi hne n (by omega)]
      simp [hne n (fun e => hi e.symm)]
      omega

theorem countP_below (f : Nat → Bool) (i : Nat) : ∀ n, i ≤ n → (List.range n).countP (fun j => f j && decide (j < i)) = (List.range i).countP f
  | 0, h => by have : i = 0 := by omega
               subst this; rfl
  | n + 1, h => by
    by_cases hi : i = n + 1
    · subst hi
      exact List.countP_congr fun x hx => by simp at hx; simp [hx]
    · rw [List.range_succ, List.countP_append, countP_below f i n (by omega)]
      have : ¬ n < i := by omega
      simp [this]

/-- Where a number stands in a sieved row. -/
theorem sieve_at (q : Nat → Bool) (n i : Nat) (hi : i < n) (hq : q i = true) :
    ((List.range n).filter q)[((List.range i).filter q).length]? = some i ∧ ((List.range n).filter q).take ((List.range i).filter q).length = (List.range i).filter q := by
  have e : List.range n = List.range i ++ i :: (List.range' (i + 1) (n - i - 1)) := by
    have h1 : List.range n = List.range' 0 n := by rw [List.range_eq_range']
    have h2 : List.range i = List.range' 0 i := by rw [List.range_eq_range']
    rw [h1, h2]
    have h3 : n = i + (n - i) := by omega
    conv => lhs; rw [h3, ← List.range'_append_1]
    congr 1
    have h4 : n - i = (n - i - 1) + 1 := by omega
    rw [h4, List.range'_succ]
    simp
  rw [e, List.filter_append, List.filter_cons, if_pos hq]
  constructor
  · rw [List.getElem?_append_right (Nat.le_refl _)]
    simp
  · rw [List.take_left']
    rfl

section
variable {P : Program} {E : Env} {call : CallF} {ops : Array Oper}

/-- One's own variables, laid ahead of all else. -/
theorem allocs_run {fn : FuncId} : ∀ {os : List Oper} {fr fr1 : Frm} {σ σ1 : Sig}, evalOps E call ops os fr σ = some (fr1, σ1) → fr.fn = fn → (∀ o ∈ os, ownAlloc E fn o = true ∧ o.guard = none) → os.Pairwise (fun a b => a.dst ≠ b.dst) →
    σ1 = σ ∧ fr1.fid = fr.fid ∧ fr1.fn = fr.fn ∧ fr1.nt = fr.nt ∧ (∀ u, (∀ o ∈ os, o.dst ≠ some u) → fr1.tmps.get u = fr.tmps.get u ∧ fr1.locs.get u = fr.locs.get u) ∧
      ∀ o ∈ os, ∃ u e ti, o.dst = some u ∧ o.op = .alloc e ∧ E.ti e = some ti ∧ u < fr.nt ∧ fr1.tmps.get u = some (.loc fr.fid u (nextGen fr.locs u) 0) ∧ fr1.locs.get u = some (nextGen fr.locs u, .cells ti.zero)
  | [], fr, fr1, σ, σ1, h, _, _, _ => by
    simp only [evalOps, Option.some.injEq, Prod.mk.injEq] at h
    obtain ⟨rfl, rfl⟩ := h
    exact ⟨rfl, rfl, rfl, rfl, fun _ _ => ⟨rfl, rfl⟩, fun o ho => by simp at ho⟩
  | o :: os, fr, fr1, σ, σ1, h, hfn, hown, hdist => by
    simp only [evalOps] at h
    split at h
    · rename_i fr2 σ2 h1
      obtain ⟨ho, hg⟩ := hown o (by simp)
      obtain ⟨hs, v, M', hfr2, hσ2, hcase⟩ := stepOp_inv h1
      -- what the first one does
      unfold ownAlloc at ho
      split at ho
      · rename_i e t hop hdst
        have hesc : E.esc fn t = false := by simpa using ho
        have hw : wantedA ops fr o = some true := by simp [wantedA, hg]
        rcases hcase with ⟨_, he⟩ | ⟨hw', _⟩
        · have hcl : clsOf E o.op = .e := by rw [hop]; rfl
          unfold evalOp at he
          simp only [hcl] at he
          rw [hop] at he
          simp only [evalE] at he
          split at he
          · rename_i ti hti
            simp only [allocA, hdst, hfn, hesc, Bool.false_eq_true, if_false, localA, Option.some.injEq, Prod.mk.injEq] at he
            obtain ⟨rfl, rfl⟩ := he
            have hpw := List.pairwise_cons.1 hdist
            have hfr := stepOp_frame h1
            obtain ⟨r1, r2, r3, r4, r5, r6⟩ := allocs_run h (hfr.2.1.trans hfn) (fun o' ho' => hown o' (by simp [ho'])) hpw.2
            have htmps : ∀ u, fr2.tmps.get u = if some t = some u then some (.loc fr.fid t (nextGen fr.locs t) 0) else fr.tmps.get u := by
              intro u; rw [hfr2, frm_put_tmps, hdst]
            have hlocs : ∀ u, fr2.locs.get u = if u = t then some (nextGen fr.locs t, .cells ti.zero) else fr.locs.get u := by
              intro u; rw [hfr2, frm_put_locs, T.get_set]
            refine ⟨r1.trans hσ2, r2.trans hfr.1, r3.trans hfr.2.1, r4.trans hfr.2.2, fun u hu => ?_, fun o' ho' => ?_⟩
            · have h1' : t ≠ u := fun e => hu o (by simp) (by rw [hdst, e])
              obtain ⟨s1, s2⟩ := r5 u fun o' ho' => hu o' (by simp [ho'])
              exact ⟨by rw [s1, htmps, if_neg (by simpa using h1')], by rw [s2, hlocs, if_neg (fun e => h1' e.symm)]⟩
            · simp only [List.mem_cons] at ho'
              rcases ho' with rfl | ho'
              · obtain ⟨s1, s2⟩ := r5 t fun o'' ho'' e => hpw.1 o'' ho'' (by rw [hdst, e])
                exact ⟨t, e, ti, hdst, hop, hti, inSlots_lt hs t hdst, by rw [s1, htmps, if_pos rfl], by rw [s2, hlocs, if_pos rfl]⟩
              · obtain ⟨u, e', ti', q1, q2, q3, q4, q5, q6⟩ := r6 o' ho'
                have hut : u ≠ t := fun e => hpw.1 o' ho' (by rw [hdst, q1, e])
                have hng : nextGen fr2.locs u = nextGen fr.locs u := by simp only [nextGen, hlocs, if_neg hut]
                rw [hfr.1, hng] at q5
                rw [hng] at q6
                exact ⟨u, e', ti', q1, q2, q3, by rw [← hfr.2.2]; exact q4, q5, q6⟩
          · simp at he
        · rw [hw] at hw'; simp at hw'
      · simp at ho
    · simp at h

/-- The rest, step by step. -/
theorem trace_run : ∀ {os : List Oper} {fr fr' : Frm} {σ σ' : Sig} {ms0 ms : List Mem}, evalTrace E call ops os fr σ ms0 = some (fr', σ', ms) →
    ∃ (tr : Nat → Frm × Sig) (new : List Mem), tr 0 = (fr, σ) ∧ (∀ p o, os[p]? = some o → stepOp E call ops (tr p).1 (tr p).2 o = some (tr (p + 1))) ∧ tr os.length = (fr', σ') ∧ ms = new ++ ms0 ∧
      ∀ p, p ≤ os.length → (⟨fr.locs, σ⟩ :: new.reverse)[(os.take p).countP (fun o => clsOf E o.op == .e)]? = some ⟨(tr p).1.locs, (tr p).2⟩
  | [], fr, fr', σ, σ', ms0, ms, h => by
    simp only [evalTrace, Option.some.injEq, Prod.mk.injEq] at h
    obtain ⟨rfl, rfl, rfl⟩ := h
    exact ⟨fun _ => (fr, σ), [], rfl, fun p o h => by simp at h, rfl, rfl, fun p hp => by simp⟩
  | o :: os, fr, fr', σ, σ', ms0, ms, h => by
    simp only [evalTrace] at h
    split at h
    · rename_i fr1 σ1 h1
      obtain ⟨tr, new, t0, t1, t2, t3, t4⟩ := trace_run h
      have hstep : ∀ p o', (o :: os)[p]? = some o' → stepOp E call ops ((fun p => match p with | 0 => (fr, σ) | p + 1 => tr p : Nat → Frm × Sig) p).1 ((fun p => match p with | 0 => (fr, σ) | p + 1 => tr p : Nat → Frm × Sig) p).2 o' = some ((fun p => match p with | 0 => (fr, σ) | p + 1 => tr p : Nat → Frm × Sig) (p + 1)) := by
        intro p o' hp
        cases p with
        | zero =>
          simp only [List.getElem?_cons_zero, Option.some.injEq] at hp
          subst hp
          simp only [t0]; exact h1
        | succ p => exact t1 p o' (by simpa using hp)
      by_cases he : clsOf E o.op = .e
      · rw [if_pos he] at t3
        refine ⟨fun p => match p with | 0 => (fr, σ) | p + 1 => tr p, new ++ [⟨fr1.locs, σ1⟩], rfl, hstep, by simpa using t2, by rw [t3]; simp, fun p hp => ?_⟩
        cases p with
        | zero => simp
        | succ p =>
          have := t4 p (by simpa using hp)
          simp only [List.take_succ_cons, List.countP_cons, he, beq_self_eq_true, if_true, List.reverse_append, List.reverse_cons, List.reverse_nil, List.nil_append, List.singleton_append, List.getElem?_cons_succ]
          exact this
      · rw [if_neg he] at t3
        obtain ⟨_, v, M', hfr1, hσ1, hcase⟩ := stepOp_inv h1
        have hmem : (⟨fr1.locs, σ1⟩ : Mem) = ⟨fr.locs, σ⟩ := by
          rcases hcase with ⟨_, hev⟩ | ⟨_, _, hM⟩
          · have := evalOp_still he hev
            subst this
            rw [hfr1, hσ1]; simp
          · subst hM
            rw [hfr1, hσ1]; simp
        refine ⟨fun p => match p with | 0 => (fr, σ) | p + 1 => tr p, new, rfl, hstep, by simpa using t2, t3, fun p hp => ?_⟩
        cases p with
        | zero => simp
        | succ p =>
          have := t4 p (by simpa using hp)
          have hb : (clsOf E o.op == .e) = false := by simpa using he
          simp only [List.take_succ_cons, List.countP_cons, hb, Bool.false_eq_true, if_false, Nat.add_zero]
          rw [← hmem]; exact this
    · simp at h

/-- What stands in a slot, step by step, where each is written once. -/
theorem trace_tmps {os : List Oper} {tr : Nat → Frm × Sig} (hstep : ∀ p o, os[p]? = some o → stepOp E call ops (tr p).1 (tr p).2 o = some (tr (p + 1))) :
    ∀ (m p : Nat), p + m ≤ os.length → ∀ u, (∀ q o, p ≤ q → q < p + m → os[q]? = some o → o.dst ≠ some u) → (tr (p + m)).1.tmps.get u = (tr p).1.tmps.get u
  | 0, p, _, u, _ => rfl
  | m + 1, p, hle, u, hu => by
    have ih := trace_tmps hstep m p (by omega) u fun q o h1 h2 => hu q o h1 (by omega)
    have hlt : p + m < os.length := by omega
    obtain ⟨_, v, M', hfr, _⟩ := stepOp_inv (hstep (p + m) os[p + m] (List.getElem?_eq_getElem hlt))
    have := hu (p + m) os[p + m] (by omega) (by omega) (List.getElem?_eq_getElem hlt)
    rw [← ih]
    show (tr (p + m + 1)).1.tmps.get u = _
    rw [hfr, frm_put_tmps, if_neg this]

theorem trace_frame {os : List Oper} {tr : Nat → Frm × Sig} (hstep : ∀ p o, os[p]? = some o → stepOp E call ops (tr p).1 (tr p).2 o = some (tr (p + 1))) :
    ∀ p, p ≤ os.length → (tr p).1.fid = (tr 0).1.fid ∧ (tr p).1.fn = (tr 0).1.fn ∧ (tr p).1.nt = (tr 0).1.nt
  | 0, _ => ⟨rfl, rfl, rfl⟩
  | p + 1, hle => by
    have ih := trace_frame hstep p (by omega)
    have hlt : p < os.length := by omega
    have := stepOp_frame (hstep p os[p] (List.getElem?_eq_getElem hlt))
    exact ⟨this.1.trans ih.1, this.2.1.trans ih.2.1, this.2.2.trans ih.2.2⟩
end
end Go.Ax
