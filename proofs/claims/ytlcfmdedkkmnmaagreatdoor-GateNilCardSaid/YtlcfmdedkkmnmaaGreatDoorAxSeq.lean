/-
  AE: a frame; one operation of a region; regions in the text's order.
-/
import Derived.Test.YtlcfmdedkkmnmaaGreatDoorAxOp2
import Derived.Orders
namespace Go.Ax

/-- Field types of known structs are known. -/
def FieldsOK (E : Env) : Prop := ∀ t ti fs, E.ti t = some ti → ti.kind = .struct fs → ∀ x ∈ fs, ∃ ti', E.ti x.2 = some ti'

/-- The slots hold what AE's do. -/
structure RepT (Γ : Gh) (w : World) (nt : Nat) (tmps : T AV) (a : Act) : Prop where
  tmps : ∀ t v, tmps.get t = some v → ∃ c, a.tmps[t]? = some c ∧ VRel Γ w v c
  size : a.tmps.size = nt

/-- A frame is as AE's. -/
structure RepF (E : Env) (Γ : Gh) (fr : Frm) (σ : Sig) (a : Act) (w : World) : Prop where
  t : RepT Γ w fr.nt fr.tmps a
  repS : RepS E Γ σ w
  repL : RepL fr.fid Γ fr.locs w
  lt : fr.fid < σ.nfr

section
variable {P : Program} {E : Env} {Γ Γ' : Gh} {w w' : World} {fr : Frm} {σ : Sig} {a : Act}

theorem RepT.ev {nt : Nat} {tm : T AV} (h : RepT Γ w nt tm a) {fr : Frm} (hf : fr.tmps = tm) : EvOK Γ w fr.val a.eval := by
  subst hf
  intro x y hx
  cases x with
  | tmp t =>
    obtain ⟨c, h1, h2⟩ := h.tmps t y hx
    simp only [Act.eval, Array.getD_eq_getD_getElem?, h1]
    exact h2
  | const v => exact ofVal_rel hx
  | global g => simp only [Frm.val, Option.some.injEq] at hx; subst hx; exact .glob g 0
  | func f => simp only [Frm.val, Option.some.injEq] at hx; subst hx; exact vrel_func .nil .nil

theorem RepT.mono {fid nt : Nat} {tm : T AV} (h : RepT Γ w nt tm a) (hx : Ext fid Γ w Γ' w') : RepT Γ' w' nt tm a :=
  ⟨fun t v ht => let ⟨c, h1, h2⟩ := h.tmps t v ht; ⟨c, h1, h2.mono hx⟩, h.size⟩

theorem put_get (a : Act) (dst : Option Tmp) (v : Value) (t : Nat) : (a.put dst v).tmps[t]? = if dst = some t ∧ t < a.tmps.size then some v else a.tmps[t]? := by
  cases dst with
  | none => simp [Act.put]
  | some d =>
    simp only [Act.put, Option.some.injEq]
    by_cases h : d = t
    · subst h
      by_cases hl : d < a.tmps.size <;> simp [hl]
    · simp [h]

theorem put_size (a : Act) (dst : Option Tmp) (v : Value) : (a.put dst v).tmps.size = a.tmps.size := by cases dst <;> simp [Act.put]
theorem put_defers (a : Act) (dst : Option Tmp) (v : Value) : (a.put dst v).defers = a.defers := by cases dst <;> rfl

theorem frm_put_tmps (fr : Frm) (dst : Option Tmp) (v : AV) (t : Nat) : (fr.put dst v).tmps.get t = if dst = some t then some v else fr.tmps.get t := by
  cases dst with
  | none => simp [Frm.put]
  | some d =>
    simp only [Frm.put, T.get_set, Option.some.injEq]
    by_cases h : t = d
    · subst h; simp
    · have h' : ¬ d = t := fun e => h e.symm
      simp [h, h']

@[simp] theorem frm_put_fid (fr : Frm) (dst : Option Tmp) (v : AV) : (fr.put dst v).fid = fr.fid := by cases dst <;> rfl
@[simp] theorem frm_put_fn (fr : Frm) (dst : Option Tmp) (v : AV) : (fr.put dst v).fn = fr.fn := by cases dst <;> rfl
@[simp] theorem frm_put_nt (fr : Frm) (dst : Option Tmp) (v : AV) : (fr.put dst v).nt = fr.nt := by cases dst <;> rfl
@[simp] theorem frm_put_locs (fr : Frm) (dst : Option Tmp) (v : AV) : (fr.put dst v).locs = fr.locs := by cases dst <;> rfl

theorem RepT.put {nt : Nat} (h : RepT Γ w nt fr.tmps a) {dst : Option Tmp} {v : AV} {c : Value} (hv : VRel Γ w v c) (hd : ∀ d, dst = some d → d < nt) : RepT Γ w nt (fr.put dst v).tmps (a.put dst c) := by
  refine ⟨fun t x hx => ?_, by rw [put_size]; exact h.size⟩
  rw [frm_put_tmps] at hx
  rw [put_get]
  split at hx
  · rename_i e
    simp only [Option.some.injEq] at hx
    subst hx
    exact ⟨c, by rw [if_pos ⟨e, by rw [h.size]; exact hd _ e⟩], hv⟩
  · rename_i e
    obtain ⟨c', h1, h2⟩ := h.tmps t x hx
    exact ⟨c', by rw [if_neg fun e' => e e'.1]; exact h1, h2⟩

theorem inSlots_lt {dst : Option Tmp} (h : fr.inSlots dst = true) : ∀ d, dst = some d → d < fr.nt := by
  intro d e; subst e; simpa [Frm.inSlots] using h

/-- Whether an operation is wanted. -/
theorem wanted_rel {ops : Array Oper} {o : Oper} {b : Bool} {nt : Nat} (h : wantedA ops fr o = some b) (hT : RepT Γ w nt fr.tmps a) : Region.wanted o (yielded ops a.tmps) = b := by
  unfold wantedA at h
  unfold Region.wanted
  split at h
  · rename_i hg
    simp only [Option.some.injEq] at h
    simp [hg, ← h]
  · rename_i j want hg
    simp only [hg]
    split at h
    · simp at h
    · rename_i q hq
      split at h
      · simp at h
      · rename_i d hd
        have hy : yielded ops a.tmps j = match a.tmps[d]? with
          | some (.bool b) => some b
          | _ => none := by simp only [yielded, hq, hd, Option.bind_some]; rfl
        rw [hy]
        split at h
        · rename_i x hx
          obtain ⟨c, h1, h2⟩ := hT.tmps d _ hx
          rw [vrel_bool_inv h2] at h1
          simp only [Option.some.injEq] at h
          subst h
          simp [h1]
        · rename_i x hnb hx
          obtain ⟨c, h1, h2⟩ := hT.tmps d _ hx
          simp only [Option.some.injEq] at h
          subst h
          rw [h1]
          have : ∀ b, c ≠ .bool b := by
            intro b e; subst e
            cases h2
            exact hnb _ rfl
          cases c <;> simp_all
        · simp at h

/-- What AE's one operation of a region is. -/
theorem stepOp_inv {call : CallF} {ops : Array Oper} {o : Oper} {fr' : Frm} {σ' : Sig} (h : stepOp E call ops fr σ o = some (fr', σ')) :
    fr.inSlots o.dst = true ∧ ∃ v M', fr' = ({ fr with locs := M'.locs } : Frm).put o.dst v ∧ σ' = M'.sig ∧
      ((wantedA ops fr o = some true ∧ evalOp E call fr.fn fr.fid o.dst ⟨fr.locs, σ⟩ fr.val o.op = some (v, M')) ∨ (wantedA ops fr o = some false ∧ v = aundef ∧ M' = ⟨fr.locs, σ⟩)) := by
  unfold stepOp at h
  split at h
  · rename_i hs
    refine ⟨hs, ?_⟩
    split at h
    · simp at h
    · rename_i hw
      simp only [Option.some.injEq, Prod.mk.injEq] at h
      obtain ⟨rfl, rfl⟩ := h
      exact ⟨aundef, ⟨fr.locs, σ⟩, rfl, rfl, .inr ⟨hw, rfl, rfl⟩⟩
    · rename_i hw
      split at h
      · simp at h
      · rename_i v M he
        simp only [Option.some.injEq, Prod.mk.injEq] at h
        obtain ⟨rfl, rfl⟩ := h
        exact ⟨v, M, rfl, rfl, .inl ⟨hw, he⟩⟩
  · simp at h

theorem stepOp_frame {call : CallF} {ops : Array Oper} {o : Oper} {fr' : Frm} {σ' : Sig} (h : stepOp E call ops fr σ o = some (fr', σ')) : fr'.fid = fr.fid ∧ fr'.fn = fr.fn ∧ fr'.nt = fr.nt := by
  obtain ⟨_, v, M', rfl, _⟩ := stepOp_inv h
  simp

/-- What is asked of code that follows an operation. -/
def Next (E : Env) (Γ0 : Gh) (w0 : World) (ds : List Deferred) (fr' : Frm) (σ' : Sig) (σ : Sig) (K : Act → World → Prop) : Prop :=
  ∀ Γ a w, Ext fr'.fid Γ0 w0 Γ w → RepF E Γ fr' σ' a w → a.defers = ds → σ.nfr ≤ σ'.nfr → K a w

theorem stepOp_ok {call : CallF} (hE : EnvOK P E) (hC : CallOK P E call) (hF : FieldsOK E) {ops : Array Oper} {i : Nat} {o : Oper} (hi : ops[i]? = some o) {fr' : Frm} {σ' : Sig} (h : stepOp E call ops fr σ o = some (fr', σ'))
    (hR : RepF E Γ fr σ a w) {K : Act → World → Prop} {Q : Exit → Act → World → Prop} (hK : Next E Γ w a.defers fr' σ' σ K) : wpOp P ops Q i K a w := by
  obtain ⟨hs, v, M', rfl, rfl, hcase⟩ := stepOp_inv h
  have hlt := inSlots_lt hs
  unfold wpOp
  simp only [hi]
  rcases hcase with ⟨hw, he⟩ | ⟨hw, rfl, rfl⟩
  · rw [wanted_rel hw hR.t]
    simp only [if_true]
    refine .inl (evalOp_ok hE hC hF (hR.t.ev rfl) he hR.repS hR.repL hR.lt ?_)
    intro cv Γ' w' hout
    refine hK Γ' _ w' ?_ ⟨?_, hout.repS, ?_, ?_⟩ (put_defers _ _ _) hout.nfr
    · simpa using hout.ext
    · simpa using (RepT.put (fr := { fr with locs := M'.locs }) (hR.t.mono hout.ext) hout.val hlt)
    · simpa using hout.repL
    · have := hout.nfr; have := hR.lt; simp only [frm_put_fid] ; simp only at *; omega
  · rw [wanted_rel hw hR.t]
    simp only [Bool.false_eq_true, if_false]
    refine hK Γ _ w (.refl _ _ _) ⟨?_, hR.repS, ?_, ?_⟩ (put_defers _ _ _) (Nat.le_refl _)
    · simp only [frm_put_nt]
      exact RepT.put (v := aundef) (c := undef) hR.t (.tuple [] #[] rfl (by simp)) hlt
    · simpa using hR.repL
    · simpa using hR.lt

/-- Operations in a row. -/
theorem evalOps_ok {call : CallF} (hE : EnvOK P E) (hC : CallOK P E call) (hF : FieldsOK E) {ops : Array Oper} {Q : Exit → Act → World → Prop} : ∀ (l : List Nat) (os : List Oper), l.map (ops[·]?) = os.map some →
    ∀ {fr fr' : Frm} {σ σ' : Sig} {Γ : Gh} {a : Act} {w : World}, evalOps E call ops os fr σ = some (fr', σ') → RepF E Γ fr σ a w →
      (∀ Γ' a' w', Ext fr.fid Γ w Γ' w' → RepF E Γ' fr' σ' a' w' → a'.defers = a.defers → fr'.fid = fr.fid → σ.nfr ≤ σ'.nfr → Q .normal a' w') → wpOps P ops Q l a w
  | [], [], _, fr, fr', σ, σ', Γ, a, w, h, hR, hQ => by
    simp only [evalOps, Option.some.injEq, Prod.mk.injEq] at h
    obtain ⟨rfl, rfl⟩ := h
    exact hQ Γ a w (.refl _ _ _) hR rfl rfl (Nat.le_refl _)
  | i :: l, o :: os, hl, fr, fr', σ, σ', Γ, a, w, h, hR, hQ => by
    simp only [List.map_cons, List.cons.injEq] at hl
    simp only [evalOps] at h
    split at h
    · rename_i fr1 σ1 h1
      rw [wpOps_cons]
      refine stepOp_ok hE hC hF hl.1 h1 hR ?_
      intro Γ1 a1 w1 hx hR1 hd hn
      have hfr := (stepOp_frame h1).1
      rw [hfr] at hx
      refine evalOps_ok hE hC hF l os hl.2 h hR1 ?_
      intro Γ2 a2 w2 hx2 hR2 hd2 hf2 hn2
      rw [hfr] at hx2
      exact hQ Γ2 a2 w2 (hx.trans hx2) hR2 (hd2.trans hd) (hf2.trans hfr) (Nat.le_trans hn hn2)
    · simp at h
  | [], _ :: _, hl, _, _, _, _, _, _, _, _, _, _ => by simp at hl
  | _ :: _, [], hl, _, _, _, _, _, _, _, _, _, _ => by simp at hl

theorem range_ops (ops : Array Oper) : (List.range ops.size).map (ops[·]?) = ops.toList.map some := by
  apply List.ext_getElem?
  intro i
  by_cases h : i < ops.size
  · simp [h]
  · simp [h]

end
end Go.Ax
