/-
  AE: one operation, whatever it is: what AE answers is what the model's operation does.
-/
import Derived.Test.YtlcfmdedkkmnmaaGreatDoorAxActs4
namespace Go.Ax
section
variable {P : Program} {E : Env} {Γ : Gh} {w : World} {fid : Nat} {M M' : Mem} {ρ : Operand → Option AV} {a : Act} {v : AV} {K : Act → World → Prop} {Q : Exit → Act → World → Prop}

/-- What operands hold. -/
def EvOK (Γ : Gh) (w : World) (ρ : Operand → Option AV) (ev : Operand → Value) : Prop := ∀ x y, ρ x = some y → VRel Γ w y (ev x)

theorem vals_rel {ev : Operand → Value} (h : EvOK Γ w ρ ev) : ∀ {l : List Operand} {as : List AV}, vals ρ l = some as → VsRel Γ w as (l.map ev)
  | [], as, e => by simp only [vals, Option.some.injEq] at e; subst e; exact .nil
  | x :: l, as, e => by
    simp only [vals] at e
    split at e
    · rename_i y ys hy hys
      simp only [Option.some.injEq] at e
      subst e
      exact .cons (h _ _ hy) (vals_rel h hys)
    · simp at e

theorem pvals_rel {ev : Operand → Value} (h : EvOK Γ w ρ ev) : ∀ {l : List (Nat × Operand)} {as : List (Nat × AV)}, pvals ρ l = some as → PsRel Γ w as (l.map fun x => (x.1, ev x.2))
  | [], as, e => by simp only [pvals, Option.some.injEq] at e; subst e; exact .nil
  | (i, x) :: l, as, e => by
    simp only [pvals] at e
    split at e
    · rename_i y ys hy hys
      simp only [Option.some.injEq] at e
      subst e
      exact .cons (h _ _ hy) (pvals_rel h hys)
    · simp at e

theorem oval_rel {ev : Operand → Value} (h : EvOK Γ w ρ ev) {x : Option Operand} {y : Option AV} (e : oval ρ x = some y) : ORelV Γ w y (x.map ev) := by
  cases x with
  | none => simp only [oval, Option.some.injEq] at e; subst e; trivial
  | some x =>
    simp only [oval] at e
    cases hx : ρ x with
    | none => simp [hx] at e
    | some z =>
      simp only [hx, Option.map_some, Option.some.injEq] at e
      subst e
      exact h _ _ hx

theorem wp_value {o : Oper} {s : Sem Value} (he : execOp a.eval o = (do pure (.value (← s)))) (h : ActOK P E fid o.dst s Γ w M M' v)
    (hK : ∀ cv Γ' w', OpOut E fid o.dst Γ w M M' v cv Γ' w' → K (a.put o.dst cv) w') : o.wp P a w K Q := by
  obtain ⟨cv, Γ', w', h1, h2⟩ := h
  have : (execOp a.eval o).run P w = .ok (.value cv) w' := by rw [he]; simp [h1]
  simp only [Oper.wp, this, Oper.upon]
  exact hK cv Γ' w' h2

theorem wp_pure {o : Oper} {x : Value} (he : execOp a.eval o = pure (.value x)) (hx : VRel Γ w v x) (hS : RepS E Γ M.sig w) (hL : RepL fid Γ M.locs w)
    (hK : ∀ cv Γ' w', OpOut E fid o.dst Γ w M M v cv Γ' w' → K (a.put o.dst cv) w') : o.wp P a w K Q := by
  have : (execOp a.eval o).run P w = .ok (.value x) w := by rw [he]; rfl
  simp only [Oper.wp, this, Oper.upon]
  exact hK x Γ w (.still hS hL hx)

theorem wp_unit {o : Oper} {s : Sem Unit} (he : execOp a.eval o = (do s; pure .skip)) (h : ∃ Γ' w', s.run P w = .ok () w' ∧ OpOut E fid o.dst Γ w M M' v undef Γ' w')
    (hK : ∀ cv Γ' w', OpOut E fid o.dst Γ w M M' v cv Γ' w' → K (a.put o.dst cv) w') : o.wp P a w K Q := by
  obtain ⟨Γ', w', h1, h2⟩ := h
  have : (execOp a.eval o).run P w = .ok .skip w' := by rw [he]; simp [h1]
  simp only [Oper.wp, this, Oper.upon]
  exact hK undef Γ' w' h2

theorem args0 {args : Array Operand} {x : Operand} (h : args[0]? = some x) (ev : Operand → Value) : (args.map ev)[0]? = some (ev x) := by simp [h]

/-- Operations on values alone, and rows made of values. -/
theorem evalP_ok (hE : EnvOK P E) {o : Oper} (hρ : EvOK Γ w ρ a.eval) (h : evalP E ρ o.op = some v) (hS : RepS E Γ M.sig w) (hL : RepL fid Γ M.locs w)
    (hfields : ∀ t ti fs, E.ti t = some ti → ti.kind = .struct fs → ∀ x ∈ fs, ∃ ti', E.ti x.2 = some ti')
    (hK : ∀ cv Γ' w', OpOut E fid o.dst Γ w M M v cv Γ' w' → K (a.put o.dst cv) w') : o.wp P a w K Q := by
  obtain ⟨dst, op, ty, pos, after, guard⟩ := o
  simp only at h hK
  unfold evalP at h
  split at h
  · exact wp_pure (o := ⟨dst, _, ty, pos, after, guard⟩) rfl (hρ _ _ h) hS hL hK
  · exact wp_pure (o := ⟨dst, _, ty, pos, after, guard⟩) rfl (hρ _ _ h) hS hL hK
  · -- pick
    rename_i c x y
    split at h
    · rename_i hc
      have hb := vrel_bool_inv (hρ _ _ hc)
      exact wp_pure (o := ⟨dst, .pick c x y, ty, pos, after, guard⟩) (x := a.eval x) (by simp only [execOp]; rw [hb]; rfl) (hρ _ _ h) hS hL hK
    · rename_i hc
      have hb := vrel_bool_inv (hρ _ _ hc)
      exact wp_pure (o := ⟨dst, .pick c x y, ty, pos, after, guard⟩) (x := a.eval y) (by simp only [execOp]; rw [hb]; rfl) (hρ _ _ h) hS hL hK
    · simp at h
  · -- build
    rename_i t parts
    split at h
    · rename_i ti ps hti hps
      have hp := pvals_rel hρ hps
      have hpl : parts.toList.map (fun x => (x.1, a.eval x.2)) = (parts.map fun (i, x) => (i, a.eval x)).toList := by simp
      rw [hpl] at hp
      obtain ⟨d, hd, hkd, _⟩ := (hE.ti t ti hti).underlying
      obtain ⟨z, hz1, hz2, _⟩ := (hE.ti t ti hti).zero (P := P) (Γ := Γ) (w := w)
      split at h
      · rename_i fs hk
        simp only [hk, KindOK] at hkd
        obtain ⟨fields, rfl, hfs⟩ := hkd
        cases hf : fillA (structPlace E fs) ti.zero ps with
        | none => simp [hf] at h
        | some cs =>
          simp only [hf, Option.map_some, Option.some.injEq] at h
          subst h
          obtain ⟨places, hpl1, hpl2⟩ := structPlaces_run (P := P) (w := w) hE hfs (hfields t ti fs hti hk)
          obtain ⟨arr, ha1, ha2⟩ := fill_ok (place := fun i => places[i]?) hpl2 hf hp hz2
          refine wp_value (o := ⟨dst, .build t parts, ty, pos, after, guard⟩) (s := Instr.build t (parts.map fun (i, x) => (i, a.eval x))) rfl (.of_sem ⟨.agg arr, ?_, vrel_agg ha2⟩ hS hL) hK
          simp only [Instr.build, Sem.run_bind, hz1, hd, Result.andThen_ok, hpl1, ha1]
          rfl
      · rename_i n e hk
        simp only [hk, KindOK] at hkd
        subst hkd
        split at h
        · rename_i ei hei
          cases hf : fillA (fun i => some (i * ei.size, ei.size)) ti.zero ps with
          | none => simp [hf] at h
          | some cs =>
            simp only [hf, Option.map_some, Option.some.injEq] at h
            subst h
            obtain ⟨arr, ha1, ha2⟩ := fill_ok (place := fun i => some (i * ei.size, ei.size)) (fun _ _ h => h) hf hp hz2
            refine wp_value (o := ⟨dst, .build t parts, ty, pos, after, guard⟩) (s := Instr.build t (parts.map fun (i, x) => (i, a.eval x))) rfl (.of_sem ⟨.agg arr, ?_, vrel_agg ha2⟩ hS hL) hK
            simp only [Instr.build, Sem.run_bind, hz1, hd, Result.andThen_ok, (hE.ti e ei hei).size, ha1]
            rfl
        · simp at h
      · simp at h
    · simp at h
  · -- buildSlice
    rename_i t len parts
    split at h
    · rename_i ti ps hti hps
      have hp := pvals_rel hρ hps
      have hpl : parts.toList.map (fun x => (x.1, a.eval x.2)) = (parts.map fun (i, x) => (i, a.eval x)).toList := by simp
      rw [hpl] at hp
      split at h
      · rename_i e hk
        split at h
        · rename_i ei hei
          split at h
          · simp at h
          · rename_i hsm
            cases hf : fillA (fun i => some (i * ei.size, ei.size)) (zerosA ei.zero len) ps with
            | none => simp [hf] at h
            | some cs =>
              simp only [hf, Option.map_some, Option.some.injEq] at h
              subst h
              exact wp_value (o := ⟨dst, .buildSlice t len parts, ty, pos, after, guard⟩) rfl (buildSlice_ok hE hti hk hei hsm hf hp hS hL) hK
        · simp at h
      · simp at h
    · simp at h
  · -- nilCheck
    rename_i x
    split at h <;> (try simp only [Option.some.injEq, reduceCtorEq] at h) <;> (try subst h)
    · rename_i i o hx
      have hr := hρ _ _ hx
      have : ∃ b, a.eval x = .pointer (some b) := by generalize a.eval x = c at hr; cases hr; exact ⟨_, rfl⟩
      obtain ⟨b, hb⟩ := this
      exact wp_pure (o := ⟨dst, .nilCheck x, ty, pos, after, guard⟩) (x := a.eval x) (by simp only [execOp]; rw [hb]) hr hS hL hK
    · rename_i f t g o hx
      have hr := hρ _ _ hx
      have : ∃ b, a.eval x = .pointer (some b) := by generalize a.eval x = c at hr; cases hr; exact ⟨_, rfl⟩
      obtain ⟨b, hb⟩ := this
      exact wp_pure (o := ⟨dst, .nilCheck x, ty, pos, after, guard⟩) (x := a.eval x) (by simp only [execOp]; rw [hb]) hr hS hL hK
    · rename_i cs o hx
      have hr := hρ _ _ hx
      have : ∃ b, a.eval x = .pointer (some b) := by generalize a.eval x = c at hr; cases hr; exact ⟨_, rfl⟩
      obtain ⟨b, hb⟩ := this
      exact wp_pure (o := ⟨dst, .nilCheck x, ty, pos, after, guard⟩) (x := a.eval x) (by simp only [execOp]; rw [hb]) hr hS hL hK
    · rename_i g o hx
      have hr := hρ _ _ hx
      have : ∃ b, a.eval x = .pointer (some b) := by generalize a.eval x = c at hr; cases hr; exact ⟨_, rfl⟩
      obtain ⟨b, hb⟩ := this
      exact wp_pure (o := ⟨dst, .nilCheck x, ty, pos, after, guard⟩) (x := a.eval x) (by simp only [execOp]; rw [hb]) hr hS hL hK
    · rename_i f p q hx
      have hr := hρ _ _ hx
      obtain ⟨fs, cs, hb, _⟩ := hr.func_inv
      exact wp_pure (o := ⟨dst, .nilCheck x, ty, pos, after, guard⟩) (x := a.eval x) (by simp only [execOp]; rw [hb]) hr hS hL hK
  · -- binOp
    rename_i op t x y ty'
    split at h
    · rename_i p q hx hy
      exact wp_value (o := ⟨dst, .binOp op t x y ty', ty, pos, after, guard⟩) rfl (.of_sem (binA_ok hE h (hρ _ _ hx) (hρ _ _ hy) x y) hS hL) hK
    · simp at h
  · rename_i op t x
    split at h
    · rename_i p hx
      exact wp_value (o := ⟨dst, .unOp op t x, ty, pos, after, guard⟩) rfl (.of_sem (unA_ok h (hρ _ _ hx)) hS hL) hK
    · simp at h
  · -- convert
    rename_i s d x
    split at h
    · rename_i p hx
      by_cases hb : (∃ b, p = .str b) ∧ ¬ ∃ b', v = .str b'
      · obtain ⟨⟨b, rfl⟩, hne⟩ := hb
        have hr := vrel_str_inv (hρ _ _ hx)
        refine wp_value (o := ⟨dst, .convert s d x, ty, pos, after, guard⟩) (s := convert s d (a.eval x)) rfl ?_ hK
        rw [hr]
        exact toBytes_ok hE h hne hS hL
      · refine wp_value (o := ⟨dst, .convert s d x, ty, pos, after, guard⟩) rfl (.of_sem (convA_still hE h (fun b hpb => ?_) (hρ _ _ hx)) hS hL) hK
        by_cases hv : ∃ b', v = .str b'
        · exact hv
        · exact absurd ⟨⟨b, hpb⟩, hv⟩ hb
    · simp at h
  · -- makeInterface
    rename_i t x
    split at h
    · rename_i ti p hti hx
      obtain ⟨d, hd, hkd, _⟩ := (hE.ti t ti hti).underlying
      split at h
      · simp at h
      · simp at h
      · rename_i hn1 hn2
        simp only [Option.some.injEq] at h
        subst h
        refine wp_value (o := ⟨dst, .makeInterface t x, ty, pos, after, guard⟩) rfl (.of_sem ⟨.iface t (a.eval x), ?_, .iface _ _ _ (hρ _ _ hx)⟩ hS hL) hK
        simp only [Instr.makeInterface, Sem.run_bind, hd, Result.andThen_ok]
        cases hk : ti.kind <;> simp only [hk, KindOK] at hkd
        case iface => exact absurd hk hn1
        case other => exact absurd hk hn2
        case struct => obtain ⟨_, rfl, _⟩ := hkd; rfl
        case func => obtain ⟨_, _, _, rfl⟩ := hkd; rfl
        all_goals subst hkd; rfl
    · simp at h
  · -- makeFunc
    rename_i f first captured
    split at h
    · rename_i p q hx hy
      simp only [Option.some.injEq] at h
      subst h
      refine wp_value (o := ⟨dst, .makeFunc (.func f) first captured, ty, pos, after, guard⟩) rfl (.of_sem ⟨.func (.func f) (first.map a.eval) (captured.map a.eval), rfl, vrel_func ?_ ?_⟩ hS hL) hK
      · simpa using vals_rel hρ hx
      · simpa using vals_rel hρ hy
    · simp at h
  · -- slice
    rename_i t x lo hi mx
    split at h
    · rename_i p l h' m hx hl hh hm
      exact wp_value (o := ⟨dst, .slice t x lo hi mx, ty, pos, after, guard⟩) rfl (.of_sem (sliceA_ok hE h (hρ _ _ hx) (oval_rel hρ hl) (oval_rel hρ hh) (oval_rel hρ hm)) hS hL) hK
    · simp at h
  · rename_i t x f
    split at h
    · rename_i p hx
      exact wp_value (o := ⟨dst, .fieldAddr t x f, ty, pos, after, guard⟩) rfl (.of_sem (fieldAddrA_ok hE h (hρ _ _ hx)) hS hL) hK
    · simp at h
  · rename_i t x f
    split at h
    · rename_i p hx
      exact wp_value (o := ⟨dst, .field t x f, ty, pos, after, guard⟩) rfl (.of_sem (fieldA_ok hE h (hρ _ _ hx)) hS hL) hK
    · simp at h
  · rename_i t x i
    split at h
    · rename_i p q hx hy
      exact wp_value (o := ⟨dst, .indexAddr t x i, ty, pos, after, guard⟩) rfl (.of_sem (indexAddrA_ok hE h (hρ _ _ hx) (hρ _ _ hy)) hS hL) hK
    · simp at h
  · rename_i t x i
    split at h
    · rename_i p q hx hy
      exact wp_value (o := ⟨dst, .index t x i, ty, pos, after, guard⟩) rfl (.of_sem (indexA_ok hE h (hρ _ _ hx) (hρ _ _ hy)) hS hL) hK
    · simp at h
  · rename_i x i
    split at h
    · rename_i p hx
      exact wp_value (o := ⟨dst, .extract x i, ty, pos, after, guard⟩) rfl (.of_sem (extract_ok h (hρ _ _ hx)) hS hL) hK
    · simp at h
  · -- a map that is never written
    rename_i t
    split at h
    · split at h
      · simp only [Option.some.injEq] at h
        subst h
        exact wp_value (o := ⟨dst, .makeMap t none, ty, pos, after, guard⟩) rfl (emptyMap_ok (t := t) hS hL) hK
      · simp at h
    · simp at h
  · -- len
    rename_i args ats
    split at h
    · rename_i t x ht hx
      split at h
      · rename_i p hp
        exact wp_value (o := ⟨dst, .call { callee := .builtin .len, args := args, argTypes := ats }, ty, pos, after, guard⟩) rfl (.of_sem (lenA_ok hE h ht (args0 hx a.eval) (hρ _ _ hp) ty) hS hL) hK
      · simp at h
    · simp at h
  · rename_i args ats
    split at h
    · rename_i p r hx
      have hr := vals_rel hρ hx
      refine wp_value (o := ⟨dst, .call { callee := .builtin .max, args := args, argTypes := ats }, ty, pos, after, guard⟩) (s := Builtin.max_ ats ty (args.map a.eval)) rfl (.of_sem ?_ hS hL) hK
      have e : (args.map a.eval).toList = args.toList.map a.eval := by simp
      simp only [Builtin.max_, e]
      cases hl : args.toList.map a.eval with
      | nil => rw [hl] at hr; cases hr
      | cons c cs =>
        rw [hl] at hr
        cases hr with
        | cons h1 h2 => exact foldA_ok (fun _ _ _ _ _ hh hx hy => max2A_ok hh hx hy) h h1 h2
    · simp at h
  · rename_i args ats
    split at h
    · rename_i p r hx
      have hr := vals_rel hρ hx
      refine wp_value (o := ⟨dst, .call { callee := .builtin .min, args := args, argTypes := ats }, ty, pos, after, guard⟩) (s := Builtin.min_ ats ty (args.map a.eval)) rfl (.of_sem ?_ hS hL) hK
      have e : (args.map a.eval).toList = args.toList.map a.eval := by simp
      simp only [Builtin.min_, e]
      cases hl : args.toList.map a.eval with
      | nil => rw [hl] at hr; cases hr
      | cons c cs =>
        rw [hl] at hr
        cases hr with
        | cons h1 h2 => exact foldA_ok (fun _ _ _ _ _ hh hx hy => min2A_ok hh hx hy) h h1 h2
    · simp at h
  · simp at h
end
end Go.Ax
