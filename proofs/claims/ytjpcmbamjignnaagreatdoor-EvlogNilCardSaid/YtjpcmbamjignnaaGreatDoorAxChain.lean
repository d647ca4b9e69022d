/-
  AE at this seat: the environments are right, one behind the other; EvlogNil's call.
-/
import Derived.Test.YtjpcmbamjignnaaGreatDoorAxList2
import Derived.Test.YtjpcmbamjignnaaGreatDoorAxEnv
import Derived.Test.YtjpcmbamjignnaaGreatDoorAxNil
namespace Go.Ax.Seat
open Go Go.Proofs

theorem codeOK_ov (E : Env) (o : FuncId → Option (List AV → Sig → Option (AV × Sig))) (f : FuncId) (c : Code) : codeOK { E with ov := o } f c = codeOK E f c := by
  induction c with
  | region id ops draw => cases draw <;> rfl
  | seq a b iha ihb => simp only [codeOK, iha, ihb]
  | cond c a b iha ihb => simp only [codeOK, iha, ihb]
  | block id a ih => simp only [codeOK, ih]
  | loop a ih => simp only [codeOK, ih]
  | scope a ih => simp only [codeOK, ih]
  | _ => rfl

theorem CodeOK.ov {E : Env} (h : CodeOK E) (o : FuncId → Option (List AV → Sig → Option (AV × Sig))) : CodeOK { E with ov := o } := fun f fn c hf hc => by
  rw [codeOK_ov]; exact h f fn c hf hc

theorem e0_ok : EnvOK Tryz.prog E0 where
  ti t ti h := tab_ok tab_checks h
  fn f fn h := by
    have h : Tryz.prog.funcs[f]? = some fn := h
    refine ⟨h, ?_⟩
    have := List.all_eq_true.1 names_check fn (List.mem_of_getElem? (by rw [Array.getElem?_toList]; exact h))
    simpa using this
  ov f h e := by
    have e : (if f = 170 then some usedA else if f = 76 then some listA else none) = some h := e
    split at e
    · rename_i hf
      subst hf
      obtain rfl := Option.some.inj e
      exact used_ok
    · split at e
      · rename_i hf
        subst hf
        obtain rfl := Option.some.inj e
        exact list_ok
      · simp at e
  ext f h e args v hv Γ w cargs ha := by
    have e : (if f = 145 then some f64from else none) = some h := e
    split at e
    · rename_i hf
      subst hf
      obtain rfl := Option.some.inj e
      exact f64_ok args v hv Γ w cargs ha
    · simp at e
  flat t h := by simp [E0] at h
  mixed := by kernel_rfl

theorem call0_ok (n : Nat) : CallOK Tryz.prog E0 (call E0 n) := call_ok e0_ok fields_of code_ok n

theorem e1_ok : EnvOK Tryz.prog E1 := by
  refine e0_ok.with (ov_apart globs_ok call0_ok fun args σ v σ' h => ?_)
  unfold valueA at h
  split at h
  · simp only [Option.some.injEq, Prod.mk.injEq] at h
    obtain ⟨rfl, rfl⟩ := h
    rename_i k i b s
    exact ⟨rfl, rfl, 30, _, _, value_run k i b s, rfl, rfl⟩
  · simp at h
theorem call1_ok (n : Nat) : CallOK Tryz.prog E1 (call E1 n) := call_ok e1_ok fields_of (CodeOK.ov code_ok _) n

theorem rawsOf_eq : ∀ {cells : List AV} {l : List Raw}, rawsOf cells = some l → cells = insC l
  | cells, l, h => by
    unfold rawsOf at h
    split at h
    · simp only [Option.some.injEq] at h
      subst h
      rfl
    · rename_i k i b s r
      split at h
      · rename_i l' hl
        simp only [Option.some.injEq] at h
        subst h
        have := rawsOf_eq hl
        subst this
        rfl
      · simp at h
    · simp at h
termination_by cells => cells.length

theorem insC_pure : ∀ l : List Raw, AV.pures (insC l) = true ∧ AV.weaks (insC l) = insC l
  | [] => ⟨rfl, rfl⟩
  | r :: l => by
    obtain ⟨h1, h2⟩ := insC_pure l
    have e : insC (r :: l) = inC r ++ insC l := rfl
    rw [e]
    simp only [inC, List.cons_append, List.nil_append, AV.pures, AV.pure, AV.weaks, AV.weak, h1, h2, Bool.and_self, and_self]
theorem outsC_pure : ∀ l : List Raw, AV.pures (outsC l) = true ∧ AV.weaks (outsC l) = outsC l
  | [] => ⟨rfl, rfl⟩
  | r :: l => by
    obtain ⟨h1, h2⟩ := outsC_pure l
    have e : outsC (r :: l) = outC r ++ outsC l := rfl
    rw [e]
    simp only [outC, List.cons_append, List.nil_append, AV.pures, AV.pure, AV.weaks, AV.weak, h1, h2, Bool.and_self, and_self]

theorem event_nil (t : Int) : call E1 40 42 [.agg [.int .u8 t, .nils]] {} = some (.agg [.int .u8 t, .nils], { nfr := 1 }) := by kernel_rfl

theorem e2_ok : EnvOK Tryz.prog E2 := by
  refine e1_ok.with (ov_apart (E := E1) globs_ok call1_ok fun args σ v σ' h => ?_)
  unfold eventA at h
  split at h
  · simp only [Option.some.injEq, Prod.mk.injEq] at h
    obtain ⟨rfl, rfl⟩ := h
    exact ⟨rfl, rfl, 40, _, _, event_nil _, rfl, rfl⟩
  · rename_i t p n cells
    split at h
    · rename_i l hl
      split at h
      · rename_i hn
        obtain ⟨rfl, hn⟩ := hn
        simp only [Option.some.injEq, Prod.mk.injEq] at h
        obtain ⟨rfl, rfl⟩ := h
        have := rawsOf_eq hl
        subst this
        obtain ⟨h1, h2⟩ := insC_pure l
        obtain ⟨σ0, hrun⟩ := event_run (t := t) hn
        refine ⟨rfl, by simp only [AV.pures, AV.pure, h1, Bool.and_self], l.length + 70, .agg [.int .u8 t, if l.length = 0 then .nils else gath l l.length], σ0, ?_, ?_, ?_⟩
        · simp only [AV.weaks, AV.weak, h2]
          exact hrun
        · by_cases h0 : l.length = 0
          · simp only [h0, if_true]; rfl
          · simp only [h0, if_false, gath, AV.pure, AV.pures, (outsC_pure _).1, Bool.and_self]
        · by_cases h0 : l.length = 0
          · simp only [h0, if_true]; rfl
          · simp only [h0, if_false, gath, AV.weak, AV.weaks, (outsC_pure _).2]
      · simp at h
    · simp at h
  · simp at h

theorem call2_ok (n : Nat) : CallOK Tryz.prog E2 (call E2 n) := call_ok e2_ok fields_of (CodeOK.ov code_ok _) n

theorem textsOf_rel : ∀ {cells : List AV} {l : List ByteArray}, textsOf cells = some l → cells.length = l.length * 4 ∧ (∀ (i : Nat) (h : i < l.length), cells[i * 4 + 3]? = some (.str l[i])) ∧ AV.pures cells = true ∧ AV.weaks cells = cells
  | cells, l, h => by
    unfold textsOf at h
    split at h
    · simp only [Option.some.injEq] at h
      subst h
      exact ⟨rfl, fun i h => by simp at h, rfl, rfl⟩
    · rename_i k i b s r
      split at h
      · rename_i l' hl
        simp only [Option.some.injEq] at h
        subst h
        obtain ⟨h1, h2, h3, h4⟩ := textsOf_rel hl
        refine ⟨by simp [h1]; omega, fun j hj => ?_, by simp only [AV.pures, AV.pure, h3, Bool.and_self], by simp only [AV.weaks, AV.weak, h4]⟩
        cases j with
        | zero => rfl
        | succ j =>
          have := h2 j (by simpa using hj)
          rw [show (j + 1) * 4 + 3 = (j * 4 + 3) + 4 by omega]
          simpa using this
      · simp at h
    · simp at h
termination_by cells => cells.length

theorem great_nil (t : Int) : call E1 40 93 [.agg [.int .u8 t, .nils]] {} = some (.bool false, { nfr := 1 }) := by kernel_rfl

theorem e3_ok : EnvOK Tryz.prog E3 := by
  have hh : CallOK Tryz.prog E1 fun g args σ => if g = 93 then greatA args σ else none := by
    refine ov_apart (E := E1) globs_ok call1_ok fun args σ v σ' h => ?_
    unfold greatA at h
    split at h
    · simp only [Option.some.injEq, Prod.mk.injEq] at h
      obtain ⟨rfl, rfl⟩ := h
      exact ⟨rfl, rfl, 40, _, _, great_nil _, rfl, rfl⟩
    · rename_i t p n cells
      split at h
      · rename_i l hl
        split at h
        · rename_i hn
          obtain ⟨rfl, hn⟩ := hn
          simp only [Option.some.injEq, Prod.mk.injEq] at h
          obtain ⟨rfl, rfl⟩ := h
          obtain ⟨h1, h2, h3, h4⟩ := textsOf_rel hl
          obtain ⟨σ0, hrun⟩ := great_run (t := t) h1 rfl h2 hn
          have e : call E1 (l.length + 70) 93 (AV.weaks [.agg [.int .u8 t, .slice p l.length cells]]) {} = some (.bool (decide ((3000 : Int) < ((l.length + (l.map fun s => min s.size 3000).sum : Nat) : Int))), σ0) := by
            simp only [AV.weaks, AV.weak, h4]
            exact hrun
          exact ⟨rfl, by simp only [AV.pures, AV.pure, h3, Bool.and_self], l.length + 70, _, σ0, e, rfl, rfl⟩
        · simp at h
      · simp at h
    · simp at h
  exact e2_ok.with (CallOK.env (E := E1) (E' := E2) rfl hh)
theorem call3_ok (n : Nat) : CallOK Tryz.prog E3 (call E3 n) := call_ok e3_ok fields_of (CodeOK.ov code_ok _) n

theorem e4_ok : EnvOK Tryz.prog E4 := by
  refine e3_ok.withs fun f h e => ?_
  refine CallOK.env (E := E0) (E' := E3) rfl ?_
  unfold nilHs at e
  split at e
  · rename_i hf
    subst hf
    obtain rfl := Option.some.inj e
    exact isoH_ok globs_ok call0_ok 400 38
  · split at e
    · obtain rfl := Option.some.inj e
      exact isoH_ok globs_ok call0_ok 30 f
    · simp at e
theorem call4_ok (n : Nat) : CallOK Tryz.prog E4 (call E4 n) := call_ok e4_ok fields_of (CodeOK.ov code_ok _) n

theorem textsOf_outs : ∀ l : List Raw, textsOf (outsC l) = some (l.map fun r => r.2.2.2)
  | [] => rfl
  | r :: l => by
    have e : outsC (r :: l) = outC r ++ outsC l := rfl
    rw [e]
    simp only [outC, List.cons_append, List.nil_append, textsOf, textsOf_outs l, List.map_cons]
theorem rawsOf_ins : ∀ l : List Raw, rawsOf (insC l) = some l
  | [] => rfl
  | r :: l => by
    have e : insC (r :: l) = inC r ++ insC l := rfl
    rw [e]
    simp only [inC, List.cons_append, List.nil_append, rawsOf, rawsOf_ins l]

/-- What the argument's list of fields may be. -/
inductive FieldsAV : AV → Prop where
  | nil : FieldsAV .nils
  | some (p : Perm) (l : List Raw) (h : l.length < 2 ^ 63) : FieldsAV (.slice p l.length (insC l))
/-- What the argument's list of numbers may be. -/
inductive KeepAV : AV → Prop where
  | nil : KeepAV .nils
  | some (p : Perm) (n : Nat) (cs : List AV) : KeepAV (.slice p n cs)

theorem evlogNil_run {kd pb sq nw t N K : Int} {F Kp : AV} (hF : FieldsAV F) (hK : KeepAV Kp) :
    ∃ σ', call E4 100 6 [.agg [.int .i64 kd, .int .u32 pb, .int .u64 sq, .int .u64 nw, .int .u8 t, F, .int .u8 N, .int .u8 K, Kp]] {} = some (.bool true, σ') := by
  obtain ⟨n, hKl, hK1⟩ : ∃ n : Nat, lenA E4 30 Kp = some (.int .i64 n) ∧ Kp.one = true := by
    cases hK with
    | nil => exact ⟨0, by simp [lenA, ti30], rfl⟩
    | some p n cs => exact ⟨n, by simp [lenA, ti30], rfl⟩
  cases hF with
  | nil => exact nil_run (X := .nils) (b := false) (fun _ => rfl) (fun _ => rfl) (fun a b c σ => publish_nil a b c t σ) hKl rfl hK1
  | some p l h =>
    by_cases h0 : l.length = 0
    · refine nil_run (X := .nils) (b := false) (fun σ => ?_) (fun _ => rfl) (fun a b c σ => publish_nil a b c t σ) hKl rfl hK1
      simp only [eventA, rawsOf_ins, h0, if_true, true_and]
      simp
    · obtain ⟨b, hb⟩ : ∃ b, ∀ σ, greatA [.agg [.int .u8 t, .slice .no (min l.length 30) (outsC (l.take (min l.length 30)))]] σ = some (.bool b, σ) := by
        refine ⟨decide ((3000 : Int) < ((min l.length 30 + (((l.take (min l.length 30)).map fun r : Raw => r.2.2.2).map fun s => min s.size 3000).sum : Nat) : Int)), fun σ => ?_⟩
        have h1 : min l.length 30 ≤ 40 := by omega
        have h2 : (List.map (fun r : Raw => r.2.2.2) (l.take (min l.length 30))).length = min l.length 30 := by simp
        simp only [greatA, textsOf_outs, h2, h1, and_self, if_true]
      refine nil_run (X := .slice .no (min l.length 30) (outsC (l.take (min l.length 30)))) (b := b) (fun σ => ?_) hb (fun a b c σ => publish_slice a b c t _ _ (outsC_pure _).1 (outsC_pure _).2 σ) hKl rfl hK1
      simp only [eventA, rawsOf_ins, h, and_self, if_true, h0, if_false]

/-- EvlogNil, in every world that holds the table. -/
theorem evlogNil_calls {w : World} {kd pb sq nw t N K : Int} {F Kp : AV} (hF : FieldsAV F) (hK : KeepAV Kp) (hS : RepS E4 Gh.none {} w) {cv : Value}
    (ha : VRel Gh.none w (.agg [.int .i64 kd, .int .u32 pb, .int .u64 sq, .int .u64 nw, .int .u8 t, F, .int .u8 N, .int .u8 K, Kp]) cv) :
    Calls Tryz.prog 6 #[cv] w fun e w' => e = .returned (.bool true) ∧ (∀ b, b < w.heap.size → w'.heap[b]? = w.heap[b]?) ∧ w.heap.size ≤ w'.heap.size ∧ w'.os = w.os ∧ w'.output = w.output := by
  obtain ⟨σ', h⟩ := evlogNil_run (kd := kd) (pb := pb) (sq := sq) (nw := nw) (t := t) (N := N) (K := K) hF hK
  refine ((call4_ok 100 _ _ _ _ _ h).2 Gh.none w #[cv] hS (.cons ha .nil)).mono ?_
  rintro e w' ⟨c, Γ', rfl, hx, _, hv, _⟩
  cases hv
  exact ⟨rfl, fun b hb => (hx.foreign b hb rfl).2, hx.size, hx.os, hx.output⟩
end Go.Ax.Seat
