/-
  AE: one operation, whatever it is (second part: memory and calls).
-/
import Derived.Test.YtlcfmdedkkmnmaaGreatDoorAxOp
namespace Go.Ax
section
variable {P : Program} {E : Env} {Γ : Gh} {w : World} {fid : Nat} {M M' : Mem} {ρ : Operand → Option AV} {a : Act} {v : AV} {K : Act → World → Prop} {Q : Exit → Act → World → Prop}

theorem evalL_ok (hE : EnvOK P E) {o : Oper} (hρ : EvOK Γ w ρ a.eval) (h : evalL E fid M ρ o.op = some v) (hS : RepS E Γ M.sig w) (hL : RepL fid Γ M.locs w)
    (hK : ∀ cv Γ' w', OpOut E fid o.dst Γ w M M v cv Γ' w' → K (a.put o.dst cv) w') : o.wp P a w K Q := by
  obtain ⟨dst, op, ty, pos, after, guard⟩ := o
  simp only at h hK
  unfold evalL at h
  split at h
  · rename_i t x
    split at h
    · rename_i p hx
      obtain ⟨ad, hc, hs⟩ := loadA_ok hE h (hρ _ _ hx) hS hL
      refine wp_value (o := ⟨dst, .load t x, ty, pos, after, guard⟩) (s := Instr.loadAt t (a.eval x)) rfl (.of_sem ?_ hS hL) hK
      rw [hc]
      obtain ⟨cv, h1, h2⟩ := hs
      exact ⟨cv, by simp [Instr.loadAt, Instr.sureAddr, h1], h2⟩
    · simp at h
  · rename_i t x i ok
    split at h
    · rename_i p q hx hy
      exact wp_value (o := ⟨dst, .lookup t x i ok, ty, pos, after, guard⟩) rfl (.of_sem (lookupA_ok hE h (hρ _ _ hx) (hρ _ _ hy) hS) hS hL) hK
    · simp at h
  · rename_i args ats
    split at h
    · rename_i t x ht hx
      split at h
      · rename_i sz by_ ze k e id hti hp
        split at h
        · rename_i es hget
          simp only [Option.some.injEq] at h
          subst h
          obtain ⟨d, hd, hkd, _⟩ := (hE.ti t _ hti).underlying
          simp only [KindOK] at hkd
          subst hkd
          have hr := hρ _ _ hp
          have : ∃ b, a.eval x = .map (some b) ∧ Γ.obj id = some b := by generalize a.eval x = c at hr; cases hr with | map _ b e => exact ⟨b, rfl, e⟩
          obtain ⟨b, hb, e⟩ := this
          obtain ⟨_, o, ob, e1, e2, r⟩ := hS.obj _ b e
          rw [hget] at e1
          simp only [Option.some.injEq] at e1
          subst e1
          cases ob <;> simp only [ORel] at r
          rename_i entries clock
          have hlen : entries.size = es.length := by have := r.1.length; simpa using this
          refine wp_value (o := ⟨dst, .call { callee := .builtin .len, args := args, argTypes := ats }, ty, pos, after, guard⟩) (s := Builtin.len_ ats ty (args.map a.eval)) rfl (.of_sem ⟨goInt entries.size, ?_, ?_⟩ hS hL) hK
          · simp [Builtin.len_, ht, hx, hb, hd, run_getObj_map e2]
          · rw [hlen]; exact .int _ _
        · simp at h
      · simp at h
    · simp at h
  · simp at h

theorem callFunc_enter {f : FuncId} (h : Enterable P f) (args : Array Value) : (callFunc f args).run P w = .ok (.enter f args) w := by
  obtain ⟨fn, h1, h2, h3⟩ := h
  have h2' : fn.body.isNone = false := by cases hb : fn.body <;> simp_all
  simp only [callFunc, Sem.run_bind, run_program, Result.andThen_ok, h1, h3, h2', Bool.false_eq_true, if_false, Sem.run_pure]

theorem RepL.call {fid' : Nat} {Γ' : Gh} {w' : World} {locs : T (Nat × AObj)} (hL : RepL fid Γ locs w) (hx : Ext fid' Γ w Γ' w') (hf : fid < fid') : RepL fid Γ' locs w' where
  own t g o b e e' := by
    rw [hx.others fid t g hf] at e'
    obtain ⟨ob, e1, r⟩ := hL.own t g o b e e'
    exact ⟨ob, by rw [hx.keepLoc fid t g b hf e']; exact e1, r.mono hx⟩
  gen t g b e := hL.gen t g b (by rw [← hx.others fid t g hf]; exact e)

theorem callA_ok {call : CallF} (hE : EnvOK P E) (hC : CallOK P E call) {o : Oper} {f : AV} {as : List AV} {σ' : Sig} (h : callA E call M.sig f as = some (v, σ')) {cf : Value} {cargs : Array Value} (hf : VRel Γ w f cf) (has : VsRel Γ w as cargs.toList)
    (he : execOp a.eval o = (do let d ← Deferred.ofValue cf cargs; invoke d.target d.args)) (hS : RepS E Γ M.sig w) (hL : RepL fid Γ M.locs w) (hfid : fid < M.sig.nfr)
    (hK : ∀ cv Γ' w', OpOut E fid o.dst Γ w M { M with sig := σ' } v cv Γ' w' → K (a.put o.dst cv) w') : o.wp P a w K Q := by
  unfold callA at h
  split at h
  · rename_i f first captured
    obtain ⟨fs, cs, rfl, h1, h2⟩ := hf.func_inv
    have hargs : VsRel Γ w (first ++ as ++ captured) (fs ++ cargs ++ cs).toList := by
      simp only [Array.toList_append]; exact (h1.append has).append h2
    have hrun : execOp a.eval o = callFunc f (fs ++ cargs ++ cs) := by rw [he]; rfl
    split at h
    · rename_i g hext
      split at h
      · rename_i x hx
        simp only [Option.some.injEq, Prod.mk.injEq] at h
        obtain ⟨rfl, rfl⟩ := h
        obtain ⟨cv, e1, e2⟩ := hE.ext f g hext _ _ hx Γ w _ hargs
        have : (execOp a.eval o).run P w = .ok (.value cv) w := by rw [hrun]; exact e1
        simp only [Oper.wp, this, Oper.upon]
        exact hK cv Γ w (.still hS hL e2)
      · simp at h
    · obtain ⟨hen, hcall⟩ := hC f _ _ _ _ h
      have : (execOp a.eval o).run P w = .ok (.enter f (fs ++ cargs ++ cs)) w := by rw [hrun]; exact callFunc_enter hen _
      simp only [Oper.wp, this, Oper.upon]
      refine (hcall Γ w _ hS hargs).mono ?_
      rintro e w' ⟨cv, Γ', rfl, hx, hS', hv, hnfr⟩
      exact hK cv Γ' w' ⟨hx.down (by omega), hS', hL.call hx hfid, hv, fun t g _ => hx.others fid t g hfid, fun _ _ _ => rfl, hnfr⟩
  · simp at h

theorem evalE_ok {call : CallF} (hE : EnvOK P E) (hC : CallOK P E call) {fn : FuncId} {o : Oper} (hρ : EvOK Γ w ρ a.eval) (h : evalE E call fn fid o.dst M ρ o.op = some (v, M')) (hS : RepS E Γ M.sig w) (hL : RepL fid Γ M.locs w) (hf : fid < M.sig.nfr)
    (hK : ∀ cv Γ' w', OpOut E fid o.dst Γ w M M' v cv Γ' w' → K (a.put o.dst cv) w') : o.wp P a w K Q := by
  obtain ⟨dst, op, ty, pos, after, guard⟩ := o
  simp only at h hK
  unfold evalE at h
  split at h
  · -- alloc
    rename_i e
    split at h
    · rename_i ti hti
      obtain ⟨z, hrun, hz⟩ := alloc_run (P := P) (Γ := Γ) (w := w) hE hti
      obtain ⟨Γ', hout⟩ := allocA_ok (grew_alloc w (.cells z.cells e)) h hz hS hL hf
      exact wp_value (o := ⟨dst, .alloc e, ty, pos, after, guard⟩) rfl ⟨_, Γ', _, hrun, hout⟩ hK
    · simp at h
  · -- box
    rename_i e x
    split at h
    · rename_i ti p hti hx
      have hr := (hρ _ _ hx).cells
      obtain ⟨Γ', hout⟩ := allocA_ok (grew_alloc w (.cells (a.eval x).cells e)) h hr hS hL hf
      exact wp_value (o := ⟨dst, .box e x, ty, pos, after, guard⟩) (s := Instr.box e (a.eval x)) rfl ⟨_, Γ', _, by simp [Instr.box, newVar, newRow], hout⟩ hK
    · simp at h
  · -- store
    rename_i t x y
    split at h
    · rename_i ti p q hti hx hy
      split at h
      · rename_i hc
        cases hst : storeA fid M p q.cells with
        | none => simp [hst] at h
        | some M2 =>
          simp only [hst, Option.map_some, Option.some.injEq, Prod.mk.injEq] at h
          obtain ⟨rfl, rfl⟩ := h
          exact wp_unit (o := ⟨dst, .store t x y, ty, pos, after, guard⟩) rfl (storeA_ok hE hti hc.1 hc.2 hst (hρ _ _ hx) (hρ _ _ hy) hS hL) hK
      · simp at h
    · simp at h
  · -- makeMap
    rename_i t
    split at h
    · simp only [Option.some.injEq, Prod.mk.injEq] at h
      obtain ⟨rfl, rfl⟩ := h
      exact wp_value (o := ⟨dst, .makeMap t none, ty, pos, after, guard⟩) rfl (makeMap_ok (t := t) rfl rfl hS hL) hK
    · simp at h
  · -- makeSlice
    rename_i t l c
    split at h
    · rename_i p q hx hy
      exact wp_value (o := ⟨dst, .makeSlice t l c, ty, pos, after, guard⟩) rfl (makeSliceA_ok hE h (hρ _ _ hx) (hρ _ _ hy) hS hL) hK
    · simp at h
  · -- mapUpdate
    rename_i t m k x
    split at h
    · rename_i p q r hm hk hx
      cases hst : mapPutA E M t p q r with
      | none => simp [hst] at h
      | some M2 =>
        simp only [hst, Option.map_some, Option.some.injEq, Prod.mk.injEq] at h
        obtain ⟨rfl, rfl⟩ := h
        exact wp_unit (o := ⟨dst, .mapUpdate t m k x, ty, pos, after, guard⟩) rfl (mapPutA_ok hE hst (hρ _ _ hm) (hρ _ _ hk) (hρ _ _ hx) hS hL) hK
    · simp at h
  · -- range
    rename_i t x
    split at h
    · rename_i sz by_ ze s tmp hti hx
      simp only [Option.some.injEq] at h
      have hr := vrel_str_inv (hρ _ _ hx)
      refine wp_value (o := ⟨some tmp, .range t x, ty, pos, after, guard⟩) (s := Instr.range t (a.eval x)) rfl ?_ hK
      rw [hr]
      exact range_ok hE hti h hS hL hf
    · simp at h
  · -- next
    rename_i it
    split at h
    · rename_i f t g hx
      split at h
      · rename_i hff
        subst hff
        split at h
        · rename_i g' s p hget
          split at h
          · rename_i hg
            subst hg
            have hn := next_ok (P := P) (E := E) (dst := dst) (hρ _ _ hx) hget ty hS hL
            split at h
            · rename_i hlt
              rw [if_pos hlt] at hn
              simp only [Option.some.injEq, Prod.mk.injEq] at h
              obtain ⟨rfl, rfl⟩ := h
              exact wp_value (o := ⟨dst, .next it true, ty, pos, after, guard⟩) rfl hn hK
            · rename_i hlt
              rw [if_neg hlt] at hn
              simp only [Option.some.injEq, Prod.mk.injEq] at h
              obtain ⟨rfl, rfl⟩ := h
              exact wp_value (o := ⟨dst, .next it true, ty, pos, after, guard⟩) rfl hn hK
          · simp at h
        · simp at h
      · simp at h
    · simp at h
  · -- append
    rename_i args ats
    split at h
    · rename_i t s x ht has
      split at h
      · rename_i xt hxt
        split at h
        · rename_i xi hxi
          have hr := vals_rel hρ has
          have e : args.toList.map a.eval = (args.map a.eval).toList := by simp
          rw [e] at hr
          have hlen := hr.length
          obtain ⟨c0, hc0, r0⟩ := hr.getElem? (i := 0) rfl
          obtain ⟨c1, hc1, r1⟩ := hr.getElem? (i := 1) rfl
          split at h
          · rename_i e' hk
            exact wp_value (o := ⟨dst, .call { callee := .builtin .append, args := args, argTypes := ats }, ty, pos, after, guard⟩) rfl
              (appendA_ok hE hxi (.inl ⟨_, hk⟩) h ht hxt (as := args.map a.eval) (by simpa using hc0) (by simpa using hc1) r0 r1 ty hS hL) hK
          · rename_i hk
            exact wp_value (o := ⟨dst, .call { callee := .builtin .append, args := args, argTypes := ats }, ty, pos, after, guard⟩) rfl
              (appendA_ok hE hxi (.inr hk) h ht hxt (as := args.map a.eval) (by simpa using hc0) (by simpa using hc1) r0 r1 ty hS hL) hK
          · simp at h
        · simp at h
      · simp at h
    · simp at h
  · -- copy
    rename_i args ats
    split at h
    · rename_i t d s ht has
      have hr := vals_rel hρ has
      have e : args.toList.map a.eval = (args.map a.eval).toList := by simp
      rw [e] at hr
      obtain ⟨c0, hc0, r0⟩ := hr.getElem? (i := 0) rfl
      obtain ⟨c1, hc1, r1⟩ := hr.getElem? (i := 1) rfl
      split at h
      · rename_i sz by_ ze e' p n cs m new hti hd hs
        split at h
        · rename_i ei hei
          split at h
          · rename_i h0
            simp only [Option.some.injEq, Prod.mk.injEq] at h
            obtain ⟨rfl, rfl⟩ := h
            exact wp_value (o := ⟨dst, .call { callee := .builtin .copy, args := args, argTypes := ats }, ty, pos, after, guard⟩) rfl
              (.of_sem (copy_none_ok hE hti hei hd hs h0 ht (as := args.map a.eval) (by simpa using hc0) (by simpa using hc1) r0 r1 ty) hS hL) hK
          · simp at h
        · simp at h
      · simp at h
    · simp at h
  · -- delete
    rename_i args ats
    split at h
    · rename_i t m k ht has
      have hr := vals_rel hρ has
      have e : args.toList.map a.eval = (args.map a.eval).toList := by simp
      rw [e] at hr
      obtain ⟨c0, hc0, r0⟩ := hr.getElem? (i := 0) rfl
      obtain ⟨c1, hc1, r1⟩ := hr.getElem? (i := 1) rfl
      cases hst : mapDelA E M t m k with
      | none => simp [hst] at h
      | some M2 =>
        simp only [hst, Option.map_some, Option.some.injEq, Prod.mk.injEq] at h
        obtain ⟨rfl, rfl⟩ := h
        exact wp_value (o := ⟨dst, .call { callee := .builtin .delete, args := args, argTypes := ats }, ty, pos, after, guard⟩) rfl
          (mapDelA_ok hE hst r0 r1 ht (as := args.map a.eval) (by simpa using hc0) (by simpa using hc1) ty hS hL) hK
    · simp at h
  · -- call
    rename_i f args ats
    split at h
    · rename_i p as hf' has
      split at h
      · rename_i x σ' hcall
        simp only [Option.some.injEq, Prod.mk.injEq] at h
        obtain ⟨rfl, rfl⟩ := h
        have hr := vals_rel hρ has
        have e : args.toList.map a.eval = (args.map a.eval).toList := by simp
        rw [e] at hr
        exact callA_ok (o := ⟨dst, .call { callee := .value f, args := args, argTypes := ats }, ty, pos, after, guard⟩) hE hC hcall (hρ _ _ hf') hr rfl hS hL hf hK
      · simp at h
    · simp at h
  · simp at h

/-- One operation. -/
theorem evalOp_ok {call : CallF} (hE : EnvOK P E) (hC : CallOK P E call) (hfields : ∀ t ti fs, E.ti t = some ti → ti.kind = .struct fs → ∀ x ∈ fs, ∃ ti', E.ti x.2 = some ti') {fn : FuncId} {o : Oper} (hρ : EvOK Γ w ρ a.eval)
    (h : evalOp E call fn fid o.dst M ρ o.op = some (v, M')) (hS : RepS E Γ M.sig w) (hL : RepL fid Γ M.locs w) (hf : fid < M.sig.nfr)
    (hK : ∀ cv Γ' w', OpOut E fid o.dst Γ w M M' v cv Γ' w' → K (a.put o.dst cv) w') : o.wp P a w K Q := by
  unfold evalOp at h
  split at h
  · cases he : evalP E ρ o.op with
    | none => simp [he] at h
    | some x =>
      simp only [he, Option.map_some, Option.some.injEq, Prod.mk.injEq] at h
      obtain ⟨rfl, rfl⟩ := h
      exact evalP_ok hE hρ he hS hL hfields hK
  · split at h
    · rename_i x hx
      simp only [Option.some.injEq, Prod.mk.injEq] at h
      obtain ⟨rfl, rfl⟩ := h
      exact evalL_ok hE hρ hx hS hL hK
    · cases he : evalP E ρ o.op with
      | none => simp [he] at h
      | some x =>
        simp only [he, Option.map_some, Option.some.injEq, Prod.mk.injEq] at h
        obtain ⟨rfl, rfl⟩ := h
        exact evalP_ok hE hρ he hS hL hfields hK
  · exact evalE_ok hE hC hρ h hS hL hf hK
end
end Go.Ax
