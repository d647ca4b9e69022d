/-
  AE: code and calls. What AE answers is what the model's run answers.
-/
import Derived.Test.YtlcfmdedkkmnmaaGreatDoorAxDrawn4
import Derived.LoopN
import Derived.Scope
namespace Go.Ax

/-- Every region of the code that draws may be drawn. -/
def codeOK (E : Env) (f : FuncId) : Code → Bool
  | .region id ops true => drawOK E f ops (E.plan f id)
  | .seq a b | .cond _ a b => codeOK E f a && codeOK E f b
  | .block _ a | .loop a | .scope a => codeOK E f a
  | _ => true

def CodeOK (E : Env) : Prop := ∀ f fn c, E.fn f = some fn → fn.body = some c → codeOK E f c = true

def AEx.exit' : AEx → Exit
  | .normal => .normal
  | .exit id => .exit id
  | .ret => .ret

section
variable {P : Program} {E : Env}

theorem evalOps_frame {call : CallF} {ops : Array Oper} : ∀ {os : List Oper} {fr fr' : Frm} {σ σ' : Sig}, evalOps E call ops os fr σ = some (fr', σ') → fr'.fid = fr.fid ∧ fr'.fn = fr.fn ∧ fr'.nt = fr.nt
  | [], fr, fr', σ, σ', h => by
    simp only [evalOps, Option.some.injEq, Prod.mk.injEq] at h
    obtain ⟨rfl, rfl⟩ := h
    exact ⟨rfl, rfl, rfl⟩
  | o :: os, fr, fr', σ, σ', h => by
    simp only [evalOps] at h
    split at h
    · rename_i fr1 σ1 h1
      obtain ⟨a, b, c⟩ := stepOp_frame h1
      obtain ⟨a', b', c'⟩ := evalOps_frame h
      exact ⟨a'.trans a, b'.trans b, c'.trans c⟩
    · simp at h

theorem evalTrace_frame {call : CallF} {ops : Array Oper} : ∀ {os : List Oper} {fr fr' : Frm} {σ σ' : Sig} {ms ms' : List Mem}, evalTrace E call ops os fr σ ms = some (fr', σ', ms') → fr'.fid = fr.fid ∧ fr'.fn = fr.fn ∧ fr'.nt = fr.nt
  | [], fr, fr', σ, σ', ms, ms', h => by
    simp only [evalTrace, Option.some.injEq, Prod.mk.injEq] at h
    obtain ⟨rfl, rfl, rfl⟩ := h
    exact ⟨rfl, rfl, rfl⟩
  | o :: os, fr, fr', σ, σ', ms, ms', h => by
    simp only [evalTrace] at h
    split at h
    · rename_i fr1 σ1 h1
      obtain ⟨a, b, c⟩ := stepOp_frame h1
      obtain ⟨a', b', c'⟩ := evalTrace_frame h
      exact ⟨a'.trans a, b'.trans b, c'.trans c⟩
    · simp at h

theorem evalDrawn_frame {call : CallF} {ops : Array Oper} {plan : List (Nat × Nat × Nat)} {fr fr' : Frm} {σ σ' : Sig} (h : evalDrawn E call ops plan fr σ = some (fr', σ')) : fr'.fid = fr.fid ∧ fr'.fn = fr.fn ∧ fr'.nt = fr.nt := by
  unfold evalDrawn at h
  split at h
  · simp at h
  · rename_i fr1 σ1 h1
    split at h
    · simp at h
    · rename_i fr2 σ2 ms h2
      split at h
      · simp only [Option.some.injEq, Prod.mk.injEq] at h
        obtain ⟨rfl, rfl⟩ := h
        obtain ⟨a, b, c⟩ := evalOps_frame h1
        obtain ⟨a', b', c'⟩ := evalTrace_frame h2
        exact ⟨a'.trans a, b'.trans b, c'.trans c⟩
      · simp at h

/-- A way to run code is right. -/
def RunOK (P : Program) (E : Env) (run : Code → Frm → Sig → Option (AEx × Frm × Sig)) : Prop :=
  ∀ c fr σ ex fr' σ', run c fr σ = some (ex, fr', σ') → codeOK E fr.fn c = true → (fr'.fid = fr.fid ∧ fr'.fn = fr.fn ∧ fr'.nt = fr.nt) ∧
    ∀ Γ a w (Q : Exit → Act → World → Prop), RepF E Γ fr σ a w →
      (∀ Γ' a' w', Ext fr.fid Γ w Γ' w' → RepF E Γ' fr' σ' a' w' → a'.defers = a.defers → σ.nfr ≤ σ'.nfr → Q ex.exit' a' w') → c.wp P Q a w

theorem argTmps_get : ∀ (l : List AV) (i t : Nat), (argTmps l i).get t = if i ≤ t then l[t - i]? else none
  | [], i, t => by simp [argTmps, T.get_leaf]
  | v :: l, i, t => by
    simp only [argTmps, T.get_set, argTmps_get l (i + 1) t]
    by_cases h : t = i
    · subst h; simp
    · by_cases h1 : i ≤ t
      · have h2 : i + 1 ≤ t := by omega
        have h3 : t - i = (t - (i + 1)) + 1 := by omega
        simp [h, h1, h2, h3]
      · have h2 : ¬ i + 1 ≤ t := by omega
        simp [h, h1, h2]

/-- One result of a function. -/
def resultS (tmps : Array Value) : ResultVar → Sem Value
  | .tmp t => pure (tmps.getD t undef)
  | .cell x t => do loadVar t (← asAddr (tmps.getD x undef))

theorem results_eq (fn : Func) (tmps : Array Value) : results fn tmps = (do
    let vs ← fn.results.mapM (resultS tmps)
    pure (if h : vs.size = 1 then vs[0] else .tuple vs)) := by
  unfold results
  congr 1

theorem resultA_ok (hE : EnvOK P E) {Γ : Gh} {fr : Frm} {σ : Sig} {a : Act} {w : World} {r : ResultVar} {v : AV} (h : resultA E fr σ r = some v) (hR : RepF E Γ fr σ a w) :
    SemOK P (resultS a.tmps r) Γ w v := by
  cases r with
  | tmp t =>
    simp only [resultA] at h
    obtain ⟨c, h1, h2⟩ := hR.t.tmps t v h
    refine ⟨c, ?_, h2⟩
    simp [resultS, h1]
  | cell x t =>
    simp only [resultA] at h
    split at h
    · rename_i p hp
      obtain ⟨c, h1, h2⟩ := hR.t.tmps x p hp
      obtain ⟨ad, rfl, cv, e1, e2⟩ := loadA_ok hE h h2 hR.repS hR.repL
      refine ⟨cv, ?_, e2⟩
      simp only [resultS, Array.getD_eq_getD_getElem?, h1, Option.getD_some, asAddr, Sem.run_bind, Sem.run_pure, Result.andThen_ok]
      exact e1
    · simp at h

theorem results_ok (hE : EnvOK P E) {Γ : Gh} {fr : Frm} {σ : Sig} {a : Act} {w : World} (hR : RepF E Γ fr σ a w) : ∀ {rs : List ResultVar} {vs : List AV}, resultsA E fr σ rs = some vs →
    ∃ cs : List Value, (rs.mapM (resultS a.tmps)).run P w = .ok cs w ∧ VsRel Γ w vs cs
  | [], vs, h => by
    simp only [resultsA, Option.some.injEq] at h
    subst h
    exact ⟨[], by simp, .nil⟩
  | r :: rs, vs, h => by
    simp only [resultsA] at h
    split at h
    · rename_i v vs' h1 h2
      simp only [Option.some.injEq] at h
      subst h
      obtain ⟨c, e1, e2⟩ := resultA_ok hE h1 hR
      obtain ⟨cs, e3, e4⟩ := results_ok hE hR h2
      refine ⟨c :: cs, ?_, .cons e2 e4⟩
      rw [List.mapM_cons, Sem.run_bind, e1, Result.andThen_ok, Sem.run_bind, e3, Result.andThen_ok, Sem.run_pure]
    · simp at h

/-- Calls, by a way to run code. -/
theorem callWith_ok (hE : EnvOK P E) (hCode : CodeOK E) {run : Code → Frm → Sig → Option (AEx × Frm × Sig)} (hrun : RunOK P E run) : CallOK P E (callWith E run) := by
  intro f args σ v σ' h
  unfold callWith at h
  split at h
  · rename_i g hov
    have := hE.ov f g hov f args σ v σ'
    simp only [if_true] at this
    exact this h
  · split at h
    · simp at h
    · rename_i fn hfn
      split at h
      · simp at h
      · rename_i c hc
        obtain ⟨hP, hname⟩ := hE.fn f fn hfn
        refine ⟨⟨fn, hP, by simp [hc], hname⟩, fun Γ w cargs hS hargs => ?_⟩
        have hlen : cargs.size = args.length := by have := hargs.length; simpa using this
        have main : ∀ ex fr' σ1, run c { fid := σ.nfr, fn := f, nt := max fn.ntmps args.length, tmps := argTmps args 0 } { σ with nfr := σ.nfr + 1 } = some (ex, fr', σ1) → (ex = .normal ∨ ex = .ret) → (match resultsA E fr' σ1 fn.results.toList with
            | some vs => some (oneOf vs, σ1)
            | none => none) = some (v, σ') → Calls P f cargs w fun e w' => ∃ cv Γ', e = .returned cv ∧ Ext σ.nfr Γ w Γ' w' ∧ RepS E Γ' σ' w' ∧ VRel Γ' w' v cv ∧ σ.nfr ≤ σ'.nfr := by
          intro ex fr' σ1 hr hex hres
          split at hres
          · rename_i vs hvs
            simp only [Option.some.injEq, Prod.mk.injEq] at hres
            obtain ⟨rfl, rfl⟩ := hres
            obtain ⟨⟨hf1, hf2, hf3⟩, hwp⟩ := hrun _ _ _ _ _ _ hr (hCode f fn c hfn hc)
            refine calls_of_wp hP hc (hwp Γ _ w _ ⟨⟨fun t x ht => ?_, ?_⟩, ?_, ?_, by simp⟩ ?_)
            · rw [argTmps_get] at ht
              simp only [Nat.zero_le, if_true, Nat.sub_zero] at ht
              obtain ⟨cv, e1, e2⟩ := hargs.getElem? ht
              refine ⟨cv, ?_, e2⟩
              have hlt : t < cargs.size := by
                obtain ⟨hh, _⟩ := List.getElem?_eq_some_iff.1 e1
                simpa using hh
              rw [Array.getElem?_append_left hlt]
              simpa using e1
            · simp only [Array.size_append, Array.size_replicate]
              omega
            · exact { hS with locNew := fun f t g hle => hS.locNew f t g (by simp only at hle; omega) }
            · refine ⟨fun t g o b e _ => ?_, fun t g b e => ?_⟩
              · simp [T.get_leaf] at e
              · rw [hS.locNew _ t g (Nat.le_refl _)] at e; simp at e
            · intro Γ' a' w' hx hR hd hn
              obtain ⟨cs, e1, e2⟩ := results_ok hE hR hvs
              have hresults : (results fn a'.tmps).run P w' = .ok (if h : cs.length = 1 then cs[0] else .tuple cs.toArray) w' := by
                rw [results_eq, Sem.run_bind, Array.mapM_eq_mapM_toList, map_eq_pure_bind, Sem.run_bind, e1]
                simp
              have hrel : VRel Γ' w' (oneOf vs) (if h : cs.length = 1 then cs[0] else .tuple cs.toArray) := by
                cases e2 with
                | nil => simpa [oneOf] using vrel_tuple .nil
                | cons h1 r1 => cases r1 with
                  | nil => simpa [oneOf] using h1
                  | cons h2 r2 =>
                    simp only [oneOf, List.length_cons, Nat.add_eq_right, Nat.add_eq_zero_iff, Nat.succ_ne_self, and_false, dite_false]
                    exact vrel_tuple (by simpa using VsRel.cons h1 (.cons h2 r2))
              have post : bodyPost P fn (fun e w' => ∃ cv Γ', e = .returned cv ∧ Ext σ.nfr Γ w Γ' w' ∧ RepS E Γ' σ1 w' ∧ VRel Γ' w' (oneOf vs) cv ∧ σ.nfr ≤ σ1.nfr) .normal a' w' :=
                ⟨hd, _, hresults, _, Γ', rfl, hx, hR.repS, hrel, by simp only at hn; omega⟩
              rcases hex with rfl | rfl <;> exact post
          · simp at hres
        split at h
        · rename_i fr' σ1 hr
          exact main _ _ _ hr (.inl rfl) h
        · rename_i fr' σ1 hr
          exact main _ _ _ hr (.inr rfl) h
        · simp at h

/-- Rounds of a loop. -/
def LoopOK (P : Program) (E : Env) (n : Nat) : Prop :=
  ∀ c fr σ ex fr' σ', exec E n (.loop c) fr σ = some (ex, fr', σ') → codeOK E fr.fn c = true → (fr'.fid = fr.fid ∧ fr'.fn = fr.fn ∧ fr'.nt = fr.nt) ∧
    ∀ Γ a w (Q : Exit → Act → World → Prop), RepF E Γ fr σ a w →
      (∀ Γ' a' w', Ext fr.fid Γ w Γ' w' → RepF E Γ' fr' σ' a' w' → a'.defers = a.defers → σ.nfr ≤ σ'.nfr → Q ex.exit' a' w') → Code.rounds P c Q n a w

theorem exec_loop_ok (hE : EnvOK P E) (hF : FieldsOK E) (hCode : CodeOK E) : ∀ n, RunOK P E (exec E n) ∧ LoopOK P E n
  | 0 => ⟨fun c fr σ ex fr' σ' h => by simp [exec] at h, fun c fr σ ex fr' σ' h => by simp [exec] at h⟩
  | n + 1 => by
    obtain ⟨ih, ihl⟩ := exec_loop_ok hE hF hCode n
    have hcall := callWith_ok hE hCode ih
    have hloop : LoopOK P E (n + 1) := by
      intro c fr σ ex fr' σ' h hok
      simp only [exec] at h
      split at h
      · rename_i fr1 σ1 h1
        obtain ⟨⟨f1, f2, f3⟩, w1⟩ := ih _ _ _ _ _ _ h1 hok
        obtain ⟨⟨g1, g2, g3⟩, w2⟩ := ihl _ _ _ _ _ _ h (by rw [f2]; exact hok)
        refine ⟨⟨g1.trans f1, g2.trans f2, g3.trans f3⟩, fun Γ a w Q hR hQ => ?_⟩
        rw [rounds_succ]
        refine w1 Γ a w _ hR fun Γ1 a1 w1' hx1 hR1 hd1 hn1 => ?_
        simp only [AEx.exit', Exit.then]
        refine w2 Γ1 a1 w1' Q hR1 fun Γ2 a2 w2' hx2 hR2 hd2 hn2 => ?_
        rw [f1] at hx2
        exact hQ Γ2 a2 w2' (hx1.trans hx2) hR2 (hd2.trans hd1) (Nat.le_trans hn1 hn2)
      · rename_i hne
        obtain ⟨hf, w1⟩ := ih _ _ _ _ _ _ h hok
        refine ⟨hf, fun Γ a w Q hR hQ => ?_⟩
        rw [rounds_succ]
        refine w1 Γ a w _ hR fun Γ1 a1 w1' hx1 hR1 hd1 hn1 => ?_
        have := hQ Γ1 a1 w1' hx1 hR1 hd1 hn1
        cases ex with
        | normal => exact absurd h (hne _ _)
        | exit id => exact this
        | ret => exact this
    refine ⟨fun c fr σ ex fr' σ' h hok => ?_, hloop⟩
    cases c with
    | skip =>
      simp only [exec, Option.some.injEq, Prod.mk.injEq] at h
      obtain ⟨rfl, rfl, rfl⟩ := h
      exact ⟨⟨rfl, rfl, rfl⟩, fun Γ a w Q hR hQ => wp_skip (hQ Γ a w (.refl _ _ _) hR rfl (Nat.le_refl _))⟩
    | label l =>
      simp only [exec, Option.some.injEq, Prod.mk.injEq] at h
      obtain ⟨rfl, rfl, rfl⟩ := h
      exact ⟨⟨rfl, rfl, rfl⟩, fun Γ a w Q hR hQ => wp_label (hQ Γ a w (.refl _ _ _) hR rfl (Nat.le_refl _))⟩
    | exit id =>
      simp only [exec, Option.some.injEq, Prod.mk.injEq] at h
      obtain ⟨rfl, rfl, rfl⟩ := h
      exact ⟨⟨rfl, rfl, rfl⟩, fun Γ a w Q hR hQ => wp_exit (hQ Γ a w (.refl _ _ _) hR rfl (Nat.le_refl _))⟩
    | ret =>
      simp only [exec, Option.some.injEq, Prod.mk.injEq] at h
      obtain ⟨rfl, rfl, rfl⟩ := h
      exact ⟨⟨rfl, rfl, rfl⟩, fun Γ a w Q hR hQ => wp_ret (hQ Γ a w (.refl _ _ _) hR rfl (Nat.le_refl _))⟩
    | goto l => simp [exec] at h
    | rangeFunc f ps as b => simp [exec] at h
    | refuse s => simp [exec] at h
    | region id ops draw =>
      simp only [exec] at h
      split at h
      · rename_i fr1 σ1 h1
        simp only [Option.some.injEq, Prod.mk.injEq] at h
        obtain ⟨rfl, rfl, rfl⟩ := h
        cases draw with
        | true =>
          simp only [if_true] at h1
          exact ⟨evalDrawn_frame h1, fun Γ a w Q hR hQ => drawn_ok hE hcall hF hok h1 hR fun Γ' a' w' hx hR' hd _ hn => hQ Γ' a' w' hx hR' hd hn⟩
        | false =>
          simp only [Bool.false_eq_true, if_false] at h1
          exact ⟨evalOps_frame h1, fun Γ a w Q hR hQ => wp_region (evalOps_ok hE hcall hF _ _ (range_ops ops) h1 hR fun Γ' a' w' hx hR' hd _ hn => hQ Γ' a' w' hx hR' hd hn)⟩
      · simp at h
    | seq x y =>
      simp only [codeOK, Bool.and_eq_true] at hok
      simp only [exec] at h
      split at h
      · rename_i fr1 σ1 h1
        obtain ⟨⟨f1, f2, f3⟩, w1⟩ := ih _ _ _ _ _ _ h1 hok.1
        obtain ⟨⟨g1, g2, g3⟩, w2⟩ := ih _ _ _ _ _ _ h (by rw [f2]; exact hok.2)
        refine ⟨⟨g1.trans f1, g2.trans f2, g3.trans f3⟩, fun Γ a w Q hR hQ => wp_seq ?_⟩
        refine w1 Γ a w _ hR fun Γ1 a1 w1' hx1 hR1 hd1 hn1 => ?_
        simp only [AEx.exit', Exit.then]
        refine w2 Γ1 a1 w1' Q hR1 fun Γ2 a2 w2' hx2 hR2 hd2 hn2 => ?_
        rw [f1] at hx2
        exact hQ Γ2 a2 w2' (hx1.trans hx2) hR2 (hd2.trans hd1) (Nat.le_trans hn1 hn2)
      · rename_i hne
        obtain ⟨hf, w1⟩ := ih _ _ _ _ _ _ h hok.1
        refine ⟨hf, fun Γ a w Q hR hQ => wp_seq ?_⟩
        refine w1 Γ a w _ hR fun Γ1 a1 w1' hx1 hR1 hd1 hn1 => ?_
        have := hQ Γ1 a1 w1' hx1 hR1 hd1 hn1
        cases ex with
        | normal => exact absurd h (hne _ _)
        | exit id => exact this
        | ret => exact this
    | cond c x y =>
      simp only [codeOK, Bool.and_eq_true] at hok
      simp only [exec] at h
      split at h
      · rename_i hv
        obtain ⟨hf, w1⟩ := ih _ _ _ _ _ _ h hok.1
        exact ⟨hf, fun Γ a w Q hR hQ => wp_cond_true (vrel_bool_inv (hR.t.ev rfl _ _ hv)) (w1 Γ a w Q hR hQ)⟩
      · rename_i hv
        obtain ⟨hf, w1⟩ := ih _ _ _ _ _ _ h hok.2
        exact ⟨hf, fun Γ a w Q hR hQ => wp_cond_false (vrel_bool_inv (hR.t.ev rfl _ _ hv)) (w1 Γ a w Q hR hQ)⟩
      · simp at h
    | block id x =>
      simp only [codeOK] at hok
      simp only [exec] at h
      split at h
      · rename_i i fr1 σ1 h1
        obtain ⟨hf, w1⟩ := ih _ _ _ _ _ _ h1 hok
        split at h
        · rename_i hi
          simp only [Option.some.injEq, Prod.mk.injEq] at h
          obtain ⟨rfl, rfl, rfl⟩ := h
          refine ⟨hf, fun Γ a w Q hR hQ => wp_block (w1 Γ a w _ hR fun Γ1 a1 w1' hx1 hR1 hd1 hn1 => ?_)⟩
          simp only [AEx.exit', Exit.inBlock, hi, if_true]
          exact hQ Γ1 a1 w1' hx1 hR1 hd1 hn1
        · rename_i hi
          simp only [Option.some.injEq, Prod.mk.injEq] at h
          obtain ⟨rfl, rfl, rfl⟩ := h
          refine ⟨hf, fun Γ a w Q hR hQ => wp_block (w1 Γ a w _ hR fun Γ1 a1 w1' hx1 hR1 hd1 hn1 => ?_)⟩
          simp only [AEx.exit', Exit.inBlock, hi, if_false]
          exact hQ Γ1 a1 w1' hx1 hR1 hd1 hn1
      · rename_i hne
        obtain ⟨hf, w1⟩ := ih _ _ _ _ _ _ h hok
        refine ⟨hf, fun Γ a w Q hR hQ => wp_block (w1 Γ a w _ hR fun Γ1 a1 w1' hx1 hR1 hd1 hn1 => ?_)⟩
        have := hQ Γ1 a1 w1' hx1 hR1 hd1 hn1
        cases ex with
        | normal => exact this
        | exit i => exact absurd h (hne _ _ _)
        | ret => exact this
    | loop x =>
      obtain ⟨hf, w1⟩ := hloop _ _ _ _ _ _ h (by simpa only [codeOK] using hok)
      exact ⟨hf, fun Γ a w Q hR hQ => wp_loop_rounds _ (w1 Γ a w Q hR hQ)⟩
    | scope x =>
      simp only [exec] at h
      obtain ⟨hf, w1⟩ := ih _ _ _ _ _ _ h (by simpa only [codeOK] using hok)
      refine ⟨hf, fun Γ a w Q hR hQ => wp_scope_straight (w1 Γ a w _ hR fun Γ1 a1 w1' hx1 hR1 hd1 hn1 => ?_)⟩
      have := hQ Γ1 a1 w1' hx1 hR1 hd1 hn1
      cases ex <;> exact this

theorem run_ok (hE : EnvOK P E) (hF : FieldsOK E) (hCode : CodeOK E) (n : Nat) : RunOK P E (exec E n) := (exec_loop_ok hE hF hCode n).1
/-- AE's calls are the model's. -/
theorem call_ok (hE : EnvOK P E) (hF : FieldsOK E) (hCode : CodeOK E) (n : Nat) : CallOK P E (call E n) := callWith_ok hE hCode (run_ok hE hF hCode n)
end
end Go.Ax
