/-
  AE: a region whose order is drawn (last part).
-/
import Derived.Test.YtlcfmdedkkmnmaaGreatDoorAxDrawn3
namespace Go.Ax
section
variable {P : Program} {E : Env} {call : CallF} {ops : Array Oper} {plan : List (Nat × Nat × Nat)} {fr fr1 fr' : Frm} {σ σ' : Sig} {tr : Nat → Frm × Sig} {MS : List Mem}

theorem acts_same {fn : FuncId} {L : Nat → Bool} {i : Nat} {o : Oper} (hi : ops[i]? = some o) (ha : isAct E fn o = false) : acts E fn ops (fun j => if j = i then true else L j) = acts E fn ops L := by
  refine List.countP_congr fun j _ => ?_
  by_cases e : j = i
  · subst e; simp only [getD_of hi, ha, Bool.false_and]
  · simp [e]

theorem acts_more {fn : FuncId} {L : Nat → Bool} {i : Nat} {o : Oper} (hi : ops[i]? = some o) (ha : isAct E fn o = true) (hL : L i = false) : acts E fn ops (fun j => if j = i then true else L j) = acts E fn ops L + 1 := by
  have h : isAct E fn (ops.getD i default) = true := by rw [getD_of hi]; exact ha
  refine countP_set _ _ i ?_ ?_ (fun j hj => by simp only [hj, if_false]) _ (lt_of_get hi)
  · simp only [hL, Bool.and_false]
  · simp only [h, Bool.true_and, if_true]

/-- One operation more. -/
theorem dinv_step (hE : EnvOK P E) (hC : CallOK P E call) (hF : FieldsOK E) (hs : Shape E fr.fn ops plan) (hc : Canon E call ops fr fr1 fr' σ σ' tr MS) (hplan : plan.all (sameRead E ops fr' MS) = true) (hfid : fr.fid < σ.nfr)
    {Γ0 : Gh} {w0 w : World} {ds : List Deferred} {L : Nat → Bool} {i : Nat} {o : Oper} {a : Act} (hi : ops[i]? = some o) (hLi : L i = false)
    (hcl : ∀ (i : Nat) (o : Oper), L i = true → ops[i]? = some o → ∀ j ∈ directs o, L j = true) (hrd : ∀ j ∈ directs o, L j = true) (hInv : DInv E ops fr fr' σ MS Γ0 w0 ds L a w)
    {K : Act → World → Prop} {Q : Exit → Act → World → Prop} (hK : ∀ a' w', DInv E ops fr fr' σ MS Γ0 w0 ds (fun j => if j = i then true else L j) a' w' → K a' w') : wpOp P ops Q i K a w := by
  obtain ⟨Γ, M, hM, hx0, hds, htm, hsz, hS, hL, hnfr, hyet⟩ := hInv
  have hbef : ∀ {j}, Bef ops i j → L j = true := fun hb => hb.ready hcl (fun o' ho' => by rw [hi] at ho'; simp only [Option.some.injEq] at ho'; subst ho'; exact hrd)
  have haft : ∀ {j}, Bef ops j i → L j = false := fun {j} hb => by
    cases hLj : L j with
    | false => rfl
    | true => have := hb.closed hcl hLj; rw [hLi] at this; simp at this
  unfold wpOp
  simp only [hi]
  cases hown : ownAlloc E fr.fn o with
  | true =>
    -- a variable is laid
    obtain ⟨u, e, ti, hdst, hop, hti, hult, hft, hfl⟩ := hc.own i o hi hown
    have hg := hs.ownG i o hi hown
    have hw : Region.wanted o (yielded ops a.tmps) = true := by simp [Region.wanted, hg]
    rw [hw]
    simp only [if_true]
    refine .inl ?_
    obtain ⟨hnone, hget⟩ := hyet i o u e ti hi hLi hown hdst hop hti
    obtain ⟨z, hrun, hz⟩ := alloc_run (P := P) (Γ := Γ) (w := w) hE hti
    have hgw := grew_alloc w (.cells z.cells e)
    have hfM : fr.fid < M.sig.nfr := by omega
    obtain ⟨hx, hS', hL'⟩ := hgw.loc hS (locs := M.locs) hfM u (nextGen fr.locs u) (.cells ti.zero) ⟨rfl, hz⟩ hnone hget (fun t' g' o' b _ e1 e2 => hL.own t' g' o' b e1 e2) (fun t' g' b e1 => hL.gen t' g' b e1)
    have hex : (execOp a.eval o).run P w = .ok (.value (.pointer (some ⟨w.heap.size, 0, none⟩))) (w.alloc (.cells z.cells e)) := by
      have : execOp a.eval o = (do pure (.value (← Instr.alloc e true (.tuple #[])))) := by
        obtain ⟨dst, op, ty, pos, after, guard⟩ := o
        simp only at hop
        subst hop
        rfl
      rw [this]; simp [hrun]
    simp only [Oper.wp, hex, Oper.upon]
    refine hK _ _ ⟨_, M, ?_, hx0.trans hx, (put_defers _ _ _).trans hds, fun t v ht => ?_, by rw [put_size]; exact hsz, hS', hL', hnfr, fun j q u' e' ti' hj hLj hq hd' hop' hti' => ?_⟩
    · rw [acts_same hi (by simp [isAct, hown])]; exact hM
    · rw [tv_set hi] at ht
      rw [put_get]
      split at ht
      · rename_i htd
        rw [hdst] at htd
        simp only [Option.some.injEq] at htd
        subst htd
        -- nobody else writes that slot
        have hF' : fr'.tmps.get u = some (.loc fr.fid u (nextGen fr.locs u) 0) := by
          have := trace_tmps hc.step (ops.toList.filter fun o => !ownAlloc E fr.fn o).length 0 (by omega) u fun k x _ _ hx hxu => by
            have hmem := List.mem_of_getElem? hx
            simp only [List.mem_filter, Bool.not_eq_true'] at hmem
            obtain ⟨j, hj, rfl⟩ := List.getElem_of_mem hmem.1
            have hj' : ops[j]? = some ops.toList[j] := by simp
            refine hs.dst i j o _ u hi hj' (fun e => ?_) hxu hdst
            subst e
            rw [hi] at hj'
            simp only [Option.some.injEq] at hj'
            rw [← hj', hown] at hmem
            simp at hmem
          rw [Nat.zero_add, hc.last, hc.start] at this
          rw [this]; exact hft
        rw [hF'] at ht
        simp only [Option.some.injEq] at ht
        subst ht
        exact ⟨_, by rw [if_pos ⟨hdst, by rw [hsz]; exact hult⟩], .loc _ _ _ _ _ (by simp [Gh.addLoc])⟩
      · rename_i htd
        obtain ⟨c, c1, c2⟩ := htm t v ht
        exact ⟨c, by rw [if_neg fun e => htd e.1]; exact c1, c2.mono hx⟩
    · by_cases hji : j = i
      · simp [hji] at hLj
      · simp only [hji, if_false] at hLj
        obtain ⟨y1, y2⟩ := hyet j q u' e' ti' hj hLj hq hd' hop' hti'
        have hne : u' ≠ u := fun e => hs.dst i j o q u hi hj (fun e => hji e.symm) (by rw [← e]; exact hd') hdst
        exact ⟨by simp [Gh.addLoc, hne, y1], y2⟩
  | false =>
    obtain ⟨frp, σp, frq, σq, hstep, hpf, hpn, hpt, hm1, hm2, hq1, hq2, hq3⟩ := canon_at hs hc hi hown
    obtain ⟨hslot, v, M', hfrq, hσq, hcase⟩ := stepOp_inv hstep
    have hlt := inSlots_lt hslot
    rw [hpt] at hlt
    -- what it looks at is what it looks at in the text's own order
    have hlook : ∀ u, u ∈ o.looksAt ops → frp.tmps.get u = Tv ops fr fr' L u := by
      intro u hu
      by_cases hex : ∃ (j : Nat) (q : Oper), ops[j]? = some q ∧ q.dst = some u
      · obtain ⟨j, q, hj, hd⟩ := hex
        have hconf := hs.conf i j o q u hi hj hd hu
        have huniq : ∀ (j' : Nat) (q' : Oper), ops[j']? = some q' → q'.dst = some u → j' = j := fun j' q' h1 h2 => Classical.byContradiction fun hne => hs.dst j j' q q' u hj h1 (fun e => hne e.symm) h2 hd
        cases hqo : ownAlloc E fr.fn q with
        | true =>
          rw [hq2 u j q hj hd (.inl hqo), tv_yes hj (hbef (hconf.1 hqo)) hd]
        | false =>
          rcases hconf.2 hqo with e | hb | hb
          · subst e
            rw [hi] at hj
            simp only [Option.some.injEq] at hj
            subst hj
            rw [hq3 u fun j' q' h1 h2 => ?_, tv_no fun j' q' h1 h2 h3 => ?_]
            · have := huniq j' q' h1 h3; subst this; rw [hLi] at h2; simp at h2
            · have := huniq j' q' h1 h2
              subst this
              rw [hi] at h1
              simp only [Option.some.injEq] at h1
              subst h1
              exact ⟨hqo, Nat.le_refl _⟩
          · rw [hq2 u j q hj hd (.inr (hb.lt hs.dirs)), tv_yes hj (hbef hb) hd]
          · have hlt' := hb.lt hs.dirs
            rw [hq3 u fun j' q' h1 h2 => ?_, tv_no fun j' q' h1 h2 h3 => ?_]
            · have := huniq j' q' h1 h3; subst this; rw [haft hb] at h2; simp at h2
            · have := huniq j' q' h1 h2
              subst this
              rw [hj] at h1
              simp only [Option.some.injEq] at h1
              subst h1
              exact ⟨hqo, by omega⟩
      · have hno : ∀ (j : Nat) (q : Oper), ops[j]? = some q → q.dst ≠ some u := fun j q h1 h2 => hex ⟨j, q, h1, h2⟩
        rw [hq3 u fun j q h1 h2 => absurd h2 (hno j q h1), tv_no fun j q h1 _ => hno j q h1]
    have hwl : ∀ {b}, wantedA ops frp o = some b → Region.wanted o (yielded ops a.tmps) = b := fun hb =>
      wanted_rel' hb fun u x hu hx => htm u x (by rw [← hlook u hu]; exact hx)
    have hfM : fr.fid < M.sig.nfr := by omega
    -- the memory behind it, told by how many acts are done then
    have hMS' : ∀ {N : Mem}, (isAct E fr.fn o = true → N = M') → (isAct E fr.fn o = false → N = M) → (isAct E fr.fn o = true → M = ⟨frp.locs, σp⟩) → MS[acts E fr.fn ops (fun j => if j = i then true else L j)]? = some N := by
      intro N h1 h2 _
      cases ha : isAct E fr.fn o with
      | false => rw [acts_same hi ha, h2 ha]; exact hM
      | true =>
        rw [acts_more hi ha hLi, h1 ha]
        have hk : acts E fr.fn ops L = (List.range i).countP (fun j => isAct E fr.fn (ops.getD j default)) := by
          rw [← countP_below _ i ops.size (by have := lt_of_get hi; omega)]
          refine List.countP_congr fun j hj => ?_
          have hjl := List.mem_range.1 hj
          have hjo : ops[j]? = some (ops.getD j default) := by simp [Array.getD, hjl]
          cases haj : isAct E fr.fn (ops.getD j default) with
          | false => simp
          | true =>
            simp only [Bool.true_and]
            by_cases hji : j < i
            · have := hbef (hs.chain i j o _ hi hjo ha haj hji)
              simp [this, hji]
            · by_cases e : j = i
              · subst e; simp [hLi]
              · have := haft (hs.chain j i _ o hjo hi haj ha (by omega))
                simp [this, hji]
        rw [hk]
        rw [ha, if_pos rfl] at hm2
        have : (⟨frq.locs, σq⟩ : Mem) = M' := by rw [hfrq, hσq]; simp
        rw [← this]; exact hm2
    have hkM : isAct E fr.fn o = true → M = ⟨frp.locs, σp⟩ := by
      intro ha
      have hk : acts E fr.fn ops L = (List.range i).countP (fun j => isAct E fr.fn (ops.getD j default)) := by
        rw [← countP_below _ i ops.size (by have := lt_of_get hi; omega)]
        refine List.countP_congr fun j hj => ?_
        have hjl := List.mem_range.1 hj
        have hjo : ops[j]? = some (ops.getD j default) := by simp [Array.getD, hjl]
        cases haj : isAct E fr.fn (ops.getD j default) with
        | false => simp
        | true =>
          simp only [Bool.true_and]
          by_cases hji : j < i
          · have := hbef (hs.chain i j o _ hi hjo ha haj hji)
            simp [this, hji]
          · by_cases e : j = i
            · subst e; simp [hLi]
            · have := haft (hs.chain j i _ o hjo hi haj ha (by omega))
              simp [this, hji]
      rw [hk, hm1] at hM
      simpa using hM.symm
    -- its slot holds what it holds in the end
    have hv' : ∀ u, o.dst = some u → fr'.tmps.get u = some v := fun u hu => by
      rw [← hq1 u hu, hfrq, frm_put_tmps, if_pos hu]
    have hact : isAct E fr.fn o = (clsOf E o.op == .e) := by simp [isAct, hown]
    -- the rest is alike, wanted or not
    have close : ∀ (Γ' : Gh) (w' : World) (cv : Value) (N : Mem), OpOut E fr.fid o.dst Γ w M N v cv Γ' w' → (isAct E fr.fn o = true → N = M') → (isAct E fr.fn o = false → N = M) → K (a.put o.dst cv) w' := by
      intro Γ' w' cv N hout hN1 hN2
      refine hK _ _ ⟨Γ', N, hMS' hN1 hN2 hkM, hx0.trans hout.ext, (put_defers _ _ _).trans hds, fun t x ht => ?_, by rw [put_size]; exact hsz, hout.repS, hout.repL, Nat.le_trans hnfr hout.nfr, fun j q u' e' ti' hj hLj hq hd' hop' hti' => ?_⟩
      · rw [tv_set hi] at ht
        rw [put_get]
        split at ht
        · rename_i htd
          rw [hv' t htd] at ht
          simp only [Option.some.injEq] at ht
          subst ht
          exact ⟨cv, by rw [if_pos ⟨htd, by rw [hsz]; exact hlt t htd⟩], hout.val⟩
        · rename_i htd
          obtain ⟨c, c1, c2⟩ := htm t x ht
          exact ⟨c, by rw [if_neg fun e => htd e.1]; exact c1, c2.mono hout.ext⟩
      · by_cases hji : j = i
        · simp [hji] at hLj
        · simp only [hji, if_false] at hLj
          obtain ⟨y1, y2⟩ := hyet j q u' e' ti' hj hLj hq hd' hop' hti'
          have hne : o.dst ≠ some u' := hs.dst i j o q u' hi hj (fun e => hji e.symm) hd'
          refine ⟨by rw [hout.locs _ _ hne]; exact y1, ?_⟩
          rw [hout.keep u' hne fun g o' hg => ?_]
          · exact y2
          · rw [y2] at hg
            simp only [Option.some.injEq, Prod.mk.injEq] at hg
            rw [← hg.1]; exact y1
    rcases hcase with ⟨hw, hev⟩ | ⟨hw, rfl, rfl⟩
    · rw [hwl hw]
      simp only [if_true]
      refine .inl ?_
      -- over the slots as they are now
      let ρ : Operand → Option AV := fun x => match x with
        | .tmp u => Tv ops fr fr' L u
        | x => fr.val x
      have hρ : EvOK Γ w ρ a.eval := by
        intro x y hx
        cases x with
        | tmp t =>
          obtain ⟨c, h1, h2⟩ := htm t y hx
          simp only [Act.eval, Array.getD_eq_getD_getElem?, h1]
          exact h2
        | const v => exact ofVal_rel hx
        | global g => simp only [ρ, Frm.val, Option.some.injEq] at hx; subst hx; exact .glob g 0
        | func f => simp only [ρ, Frm.val, Option.some.injEq] at hx; subst hx; exact vrel_func .nil .nil
      have hcong : ∀ x ∈ o.op.operands, frp.val x = ρ x := by
        intro x hx
        cases x with
        | tmp t => exact hlook t (looks_operand hx)
        | const v => rfl
        | global g => rfl
        | func f => rfl
      rw [hpf, hpn, evalOp_congr hcong] at hev
      cases hcls : clsOf E o.op with
      | e =>
        have ha : isAct E fr.fn o = true := by rw [hact, hcls]; rfl
        rw [← hkM ha] at hev
        exact evalOp_ok hE hC hF hρ hev hS hL hfM fun cv Γ' w' hout => close Γ' w' cv M' hout (fun _ => rfl) (fun h => by rw [ha] at h; simp at h)
      | p =>
        have ha : isAct E fr.fn o = false := by rw [hact, hcls]; rfl
        have hev' := evalOp_pure (call' := call) (N := M) hcls hev
        exact evalOp_ok hE hC hF hρ hev' hS hL hfM fun cv Γ' w' hout => close Γ' w' cv M hout (fun h => by rw [ha] at h; simp at h) (fun _ => rfl)
      | l =>
        have ha : isAct E fr.fn o = false := by rw [hact, hcls]; rfl
        have hev' : evalOp E call fr.fn fr.fid o.dst M ρ o.op = some (v, M) := by
          have hMM' := evalOp_still (by rw [hcls]; simp) hev
          obtain ⟨b1, b2, hb1, hb2, hor⟩ := hs.reads i o hi hcls
          -- how many acts are done lies between two numbers
          have hlo : (List.range ops.size).countP (fun j => isAct E fr.fn (ops.getD j default) && b1 j) ≤ acts E fr.fn ops L := by
            refine List.countP_mono_left fun j _ h => ?_
            simp only [Bool.and_eq_true] at h ⊢
            exact ⟨h.1, hbef (hb1 j h.2)⟩
          have hhi : acts E fr.fn ops L ≤ (List.range ops.size).countP (fun j => isAct E fr.fn (ops.getD j default) && !b2 j) := by
            refine List.countP_mono_left fun j _ h => ?_
            simp only [Bool.and_eq_true, Bool.not_eq_true'] at h ⊢
            refine ⟨h.1, ?_⟩
            cases hb : b2 j with
            | false => rfl
            | true => have := haft (hb2 j hb); rw [h.2] at this; simp at this
          rcases hor with heq | ⟨⟨x, hxp, hxi, hxlo, hxhi⟩, hwr⟩
          · -- just so many as in the text's own order
            have h1 : (List.range ops.size).countP (fun j => isAct E fr.fn (ops.getD j default) && b1 j) ≤ (List.range i).countP (fun j => isAct E fr.fn (ops.getD j default)) := by
              rw [← countP_below _ i ops.size (by have := lt_of_get hi; omega)]
              refine List.countP_mono_left fun j _ h => ?_
              simp only [Bool.and_eq_true, decide_eq_true_eq] at h ⊢
              exact ⟨h.1, (hb1 j h.2).lt hs.dirs⟩
            have h2 : (List.range i).countP (fun j => isAct E fr.fn (ops.getD j default)) ≤ (List.range ops.size).countP (fun j => isAct E fr.fn (ops.getD j default) && !b2 j) := by
              rw [← countP_below _ i ops.size (by have := lt_of_get hi; omega)]
              refine List.countP_mono_left fun j _ h => ?_
              simp only [Bool.and_eq_true, decide_eq_true_eq, Bool.not_eq_true'] at h ⊢
              refine ⟨h.1, ?_⟩
              cases hb : b2 j with
              | false => rfl
              | true => have := (hb2 j hb).lt hs.dirs; omega
            have hk : acts E fr.fn ops L = (List.range i).countP (fun j => isAct E fr.fn (ops.getD j default)) := by omega
            have hMeq : M = ⟨frp.locs, σp⟩ := by
              rw [hk, hm1] at hM
              simpa using hM.symm
            rw [hMeq, ← hMM']
            rw [hMM']
            rw [hMM'] at hev
            exact hev
          · -- it was looked at again
            have hsame := List.all_eq_true.1 hplan x hxp
            unfold sameRead at hsame
            rw [hxi, hi] at hsame
            simp only at hsame
            have hfin : ∀ u, u ∈ o.looksAt ops → fr'.tmps.get u = frp.tmps.get u := by
              intro u hu
              by_cases hex : ∃ (j : Nat) (q : Oper), ops[j]? = some q ∧ q.dst = some u
              · obtain ⟨j, q, hj, hd⟩ := hex
                exact (hq2 u j q hj hd (.inr ((hwr j q u hj hd hu).lt hs.dirs))).symm
              · have hno : ∀ (j : Nat) (q : Oper), ops[j]? = some q → q.dst ≠ some u := fun j q h1 h2 => hex ⟨j, q, h1, h2⟩
                rw [hq3 u fun j q h1 h2 => absurd h2 (hno j q h1)]
                have := trace_tmps hc.step (ops.toList.filter fun o => !ownAlloc E fr.fn o).length 0 (by omega) u fun k y _ _ hy hyu => by
                  have hmem := List.mem_of_getElem? hy
                  simp only [List.mem_filter] at hmem
                  obtain ⟨j, hj, rfl⟩ := List.getElem_of_mem hmem.1
                  exact hno j _ (by simp) hyu
                rw [Nat.zero_add, hc.last, hc.start] at this
                rw [this]
                exact (hc.other u fun j q h1 _ => hno j q h1).1
            rw [wantedA_congr hfin, hw] at hsame
            simp only at hsame
            cases hd : o.dst with
            | none => rw [hd] at hsame; simp at hsame
            | some d =>
              rw [hd] at hsame
              simp only [hv' d hd] at hsame
              rw [List.all_eq_true] at hsame
              have hmem : M ∈ (MS.drop x.2.1).take (x.2.2 + 1 - x.2.1) := by
                have hklt : acts E fr.fn ops L < MS.length := (List.getElem?_eq_some_iff.1 hM).1
                have hget : ((MS.drop x.2.1).take (x.2.2 + 1 - x.2.1))[acts E fr.fn ops L - x.2.1]? = some M := by
                  rw [List.getElem?_take, if_pos (by omega), List.getElem?_drop]
                  have : x.2.1 + (acts E fr.fn ops L - x.2.1) = acts E fr.fn ops L := by omega
                  rw [this]; exact hM
                exact List.mem_of_getElem? hget
              have := hsame M hmem
              split at this
              · rename_i v2 N2 hev2
                have hveq := of_decide_eq_true this
                subst hveq
                have hfr'fid : fr'.fid = fr.fid ∧ fr'.fn = fr.fn := by
                  have := trace_frame hc.step (ops.toList.filter fun o => !ownAlloc E fr.fn o).length (Nat.le_refl _)
                  rw [hc.last, hc.start] at this
                  exact ⟨this.1.trans hc.head.1, this.2.1.trans hc.head.2.1⟩
                have hcong2 : ∀ x ∈ o.op.operands, fr'.val x = ρ x := by
                  intro x hx
                  cases x with
                  | tmp t => exact (hfin t (looks_operand hx)).trans (hlook t (looks_operand hx))
                  | const v => rfl
                  | global g => rfl
                  | func f => rfl
                rw [hfr'fid.1, hfr'fid.2, evalOp_congr hcong2] at hev2
                have hN2 := evalOp_still (by rw [hcls]; simp) hev2
                subst hN2
                have := evalOp_read (call' := call) hcls hev2
                exact this
              · simp at this
        exact evalOp_ok hE hC hF hρ hev' hS hL hfM fun cv Γ' w' hout => close Γ' w' cv M hout (fun h => by rw [ha] at h; simp at h) (fun _ => rfl)
    · rw [hwl hw]
      simp only [Bool.false_eq_true, if_false]
      exact close Γ w undef M (.still hS hL (.tuple [] #[] rfl (by simp))) (fun ha => hkM ha) (fun _ => rfl)

theorem getD_rep (n j : Nat) : (Array.replicate n false).getD j false = false := by
  simp only [Array.getD]
  split <;> simp

/-- A region whose order is drawn. -/
theorem drawn_ok (hE : EnvOK P E) (hC : CallOK P E call) (hF : FieldsOK E) {Γ : Gh} {a : Act} {w : World} {id : Nat} {Q : Exit → Act → World → Prop} (hok : drawOK E fr.fn ops plan = true) (h : evalDrawn E call ops plan fr σ = some (fr', σ')) (hR : RepF E Γ fr σ a w)
    (hQ : ∀ Γ' a' w', Ext fr.fid Γ w Γ' w' → RepF E Γ' fr' σ' a' w' → a'.defers = a.defers → fr'.fid = fr.fid → σ.nfr ≤ σ'.nfr → Q .normal a' w') : (Code.region id ops true).wp P Q a w := by
  have hs := drawOK_shape hok
  obtain ⟨fr1, tr, MS, hc, hM0, hplan⟩ := evalDrawn_canon hs h
  have hfrl := trace_frame hc.step (ops.toList.filter fun o => !ownAlloc E fr.fn o).length (Nat.le_refl _)
  rw [hc.last, hc.start] at hfrl
  refine wp_region_any hE.mixed ?_
  have hsame := Same.drew w
  -- all that is ready, one by one
  have go : ∀ (fuel : Nat) (listed : Array Bool) (a1 : Act) (w1 : World), listed.size = ops.size → (List.range ops.size).countP (fun j => !listed.getD j false) ≤ fuel →
      (∀ (i : Nat) (o : Oper), listed.getD i false = true → ops[i]? = some o → ∀ j ∈ directs o, listed.getD j false = true) →
      DInv E ops fr fr' σ MS Γ w a.defers (fun j => listed.getD j false) a1 w1 → wpAny P .any ops Q fuel listed a1 w1 := by
    -- where nothing is ready all is done
    have done : ∀ (listed : Array Bool) (a1 : Act) (w1 : World), listed.size = ops.size → Region.ready .any ops listed = [] → DInv E ops fr fr' σ MS Γ w a.defers (fun j => listed.getD j false) a1 w1 → Q .normal a1 w1 := by
      intro listed a1 w1 hsz hnil hInv
      have hall : ∀ i, i < ops.size → listed.getD i false = true := by
        intro i
        induction i using Nat.strongRecOn with
        | _ i ih =>
          intro hi
          cases hli : listed.getD i false with
          | true => rfl
          | false =>
            exfalso
            have ho : ops[i]? = some ops[i] := Array.getElem?_eq_getElem hi
            have : i ∈ Region.ready .any ops listed := by
              rw [mem_ready]
              refine ⟨?_, _, ho, fun e he hb => ?_⟩
              · have hil : i < listed.size := by omega
                simp [Array.getD, hil] at hli ⊢; exact hli
              · have hdir : e.on ∈ directs ops[i] := by
                  unfold directs
                  exact List.mem_filterMap.2 ⟨e, by simpa using he, by simp [hb]⟩
                have hlt := hs.dirs i _ ho _ hdir
                exact ih _ hlt (by omega)
            rw [hnil] at this; simp at this
      obtain ⟨Γ1, M, hM, hx0, hds, htm, hsz1, hS, hL, hnfr, _⟩ := hInv
      -- the memory is the last one
      have hMl : M = ⟨fr'.locs, σ'⟩ := by
        have hlast := hc.mems _ (Nat.le_refl _)
        rw [hc.last, List.take_length] at hlast
        have hcount : acts E fr.fn ops (fun j => listed.getD j false) = (ops.toList.filter fun o => !ownAlloc E fr.fn o).countP (fun o => clsOf E o.op == .e) := by
          conv => rhs; rw [toList_range, List.filter_map, List.countP_map, List.countP_filter]
          refine List.countP_congr fun j hj => ?_
          have := hall j (List.mem_range.1 hj)
          simp only [this, Bool.and_true, isAct, Function.comp]
        rw [hcount, hlast] at hM
        simpa using hM.symm
      subst hMl
      refine hQ Γ1 a1 w1 hx0 ⟨⟨fun t v ht => ?_, hsz1.trans (hc.head.2.2.symm.trans hfrl.2.2.symm)⟩, hS, by rw [hfrl.1, hc.head.1]; exact hL, by rw [hfrl.1, hc.head.1]; have := hR.lt; simp only at hnfr; omega⟩ hds (hfrl.1.trans hc.head.1) hnfr
      refine htm t v ?_
      by_cases hex : ∃ (j : Nat) (q : Oper), ops[j]? = some q ∧ q.dst = some t
      · obtain ⟨j, q, hj, hd⟩ := hex
        rw [tv_yes hj (hall j (lt_of_get hj)) hd]; exact ht
      · have hno : ∀ (j : Nat) (q : Oper), ops[j]? = some q → q.dst ≠ some t := fun j q h1 h2 => hex ⟨j, q, h1, h2⟩
        rw [tv_no fun j q h1 _ => hno j q h1]
        have := trace_tmps hc.step (ops.toList.filter fun o => !ownAlloc E fr.fn o).length 0 (by omega) t fun k y _ _ hy hyu => by
          have hmem := List.mem_of_getElem? hy
          simp only [List.mem_filter] at hmem
          obtain ⟨j, hj, rfl⟩ := List.getElem_of_mem hmem.1
          exact hno j _ (by simp) hyu
        rw [Nat.zero_add, hc.last, hc.start] at this
        rw [← (hc.other t fun j q h1 _ => hno j q h1).1, ← this]; exact ht
    intro fuel
    induction fuel with
    | zero =>
      intro listed a1 w1 hsz hcnt hcl hInv
      have hnil : Region.ready .any ops listed = [] := by
        cases hr : Region.ready .any ops listed with
        | nil => rfl
        | cons i l =>
          exfalso
          have hi : i ∈ Region.ready .any ops listed := by rw [hr]; simp
          rw [mem_ready] at hi
          obtain ⟨h1, o, ho, _⟩ := hi
          have hil : i < ops.size := lt_of_get ho
          have hpos : 0 < (List.range ops.size).countP (fun j => !listed.getD j false) := by
            rw [List.countP_pos_iff]
            refine ⟨i, List.mem_range.2 hil, ?_⟩
            have hil' : i < listed.size := by omega
            simp [Array.getD, hil'] at h1 ⊢; exact h1
          omega
      exact ⟨hnil, done listed a1 w1 hsz hnil hInv⟩
    | succ fuel ih =>
      intro listed a1 w1 hsz hcnt hcl hInv
      refine ⟨fun hnil => done listed a1 w1 hsz hnil hInv, fun i hi => ?_⟩
      rw [mem_ready] at hi
      obtain ⟨h1, o, ho, hedge⟩ := hi
      have hil : i < ops.size := lt_of_get ho
      have hil' : i < listed.size := by omega
      have hLi : listed.getD i false = false := by simp [Array.getD, hil'] at h1 ⊢; exact h1
      have hrd : ∀ j ∈ directs o, listed.getD j false = true := by
        intro j hj
        unfold directs at hj
        obtain ⟨e, he, hb⟩ := List.mem_filterMap.1 hj
        split at hb
        · rename_i hbb
          simp only [Option.some.injEq] at hb
          subst hb
          exact hedge e (by simpa using he) hbb
        · simp at hb
      have hfun : (fun j => (listed.setIfInBounds i true).getD j false) = fun j => if j = i then true else listed.getD j false := by
        funext j
        by_cases e : j = i
        · subst e; simp [Array.getD, hil']
        · rw [getD_set_ne false (fun h => e h.symm)]; simp [e]
      refine dinv_step hE hC hF hs hc hplan hR.lt ho hLi hcl hrd hInv fun a2 w2 hInv2 => ih _ a2 w2 (by simp [hsz]) ?_ ?_ ?_
      · have hc1 : (List.range ops.size).countP (fun j => !listed.getD j false) = (List.range ops.size).countP (fun j => !(listed.setIfInBounds i true).getD j false) + 1 :=
          countP_set _ _ i (by simp [Array.getD, hil']) (by simp only [hLi, Bool.not_false]) (fun j hj => by rw [getD_set_ne false (fun h => hj h.symm)]) _ hil
        omega
      · intro i' o' hli hoi j hj
        by_cases e : i' = i
        · subst e
          rw [ho] at hoi
          simp only [Option.some.injEq] at hoi
          subst hoi
          exact getD_set_true (hrd j hj)
        · rw [getD_set_ne false (fun h => e h.symm)] at hli
          exact getD_set_true (hcl i' o' hli hoi j hj)
      · rw [hfun]; exact hInv2
  refine go ops.size _ a w.drew (by simp) ?_ ?_ ?_
  · refine Nat.le_trans List.countP_le_length ?_
    simp
  · intro i o h; rw [getD_rep] at h; cases h
  · have hzero : acts E fr.fn ops (fun j => (Array.replicate ops.size false).getD j false) = 0 := by
      unfold acts
      rw [List.countP_eq_zero]
      intro j hj
      simp only [getD_rep, Bool.and_false]; simp
    refine ⟨Γ, ⟨fr1.locs, σ⟩, by rw [hzero]; exact hM0, hsame.ext _ _, rfl, fun u v hv => ?_, hR.t.size, hR.repS.same hsame, ?_, Nat.le_refl _, fun i o u e ti ho _ hown hd hop hti => ?_⟩
    · rw [tv_no fun j q _ h => by rw [getD_rep] at h; cases h] at hv
      obtain ⟨c, h1, h2⟩ := hR.t.tmps u v hv
      exact ⟨c, h1, h2.mono (hsame.ext 0 Γ)⟩
    · have hL := hR.repL.same hsame
      have hloc : ∀ u, fr1.locs.get u = fr.locs.get u ∨ ∃ ti : TI, fr1.locs.get u = some (nextGen fr.locs u, .cells ti.zero) := by
        intro u
        by_cases hex : ∃ (i : Nat) (o : Oper), ops[i]? = some o ∧ ownAlloc E fr.fn o = true ∧ o.dst = some u
        · obtain ⟨i, o, ho, hown, hd⟩ := hex
          obtain ⟨u', e, ti, hd', _, _, _, _, hl⟩ := hc.own i o ho hown
          rw [hd] at hd'
          simp only [Option.some.injEq] at hd'
          subst hd'
          exact .inr ⟨ti, hl⟩
        · exact .inl (hc.other u fun i o ho hown hd => hex ⟨i, o, ho, hown, hd⟩).2
      refine ⟨fun t g o b e e' => ?_, fun t g b e => ?_⟩
      · rcases hloc t with h | ⟨ti, h⟩
        · rw [h] at e; exact hL.own t g o b e e'
        · rw [h] at e
          simp only [Option.some.injEq, Prod.mk.injEq] at e
          obtain ⟨rfl, rfl⟩ := e
          rw [local_fresh (M := ⟨fr.locs, σ⟩) hR.repL rfl] at e'
          simp at e'
      · obtain ⟨g', o, e1, hle⟩ := hL.gen t g b e
        rcases hloc t with h | ⟨ti, h⟩
        · exact ⟨g', o, by rw [h]; exact e1, hle⟩
        · exact ⟨_, _, h, by simp only [nextGen, e1]; omega⟩
    · obtain ⟨u', e', ti', hd', hop', hti', _, _, hl⟩ := hc.own i o ho hown
      rw [hd] at hd'
      simp only [Option.some.injEq] at hd'
      subst hd'
      rw [hop] at hop'
      simp only [Op.alloc.injEq] at hop'
      subst hop'
      rw [hti] at hti'
      simp only [Option.some.injEq] at hti'
      subst hti'
      exact ⟨local_fresh (M := ⟨fr.locs, σ⟩) hR.repL rfl, hl⟩
end
end Go.Ax
