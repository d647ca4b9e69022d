/-
  AE at this seat: GateNil's run, whatever the arguments; and so the model's call.
-/
import Derived.Test.YtlcfmdedkkmnmaaGreatDoorAxNone2
import Derived.Test.YtlcfmdedkkmnmaaGreatDoorAxCall0
import Derived.Test.YtlcfmdedkkmnmaaGreatDoorAxMono
namespace Go.Ax.Seat
open Go Go.Proofs
set_option maxRecDepth 100000

noncomputable def E1 : Env := E0.with 144 (noneA [195, 199])

theorem e1_ok : EnvOK Tryz.prog E1 := e0_ok.with (none_ok fun g hg => by
  rcases List.mem_cons.1 hg with rfl | hg
  · exact none_seqs
  · rcases List.mem_cons.1 hg with rfl | hg
    · exact none_subs
    · cases hg)
theorem call1_ok (n : Nat) : CallOK Tryz.prog E1 (call E1 n) := call_ok e1_ok fields_of (CodeOK.ov code_ok _) n

def seqL : Code → Code
  | .seq a _ => a
  | c => c
def seqR : Code → Code
  | .seq _ b => b
  | c => c
def thenC : Code → Code
  | .cond _ a _ => a
  | c => c
def endOf (r : Option (AEx × Frm × Sig)) (fr : Frm) : Frm := match r with
  | some (_, fr, _) => fr
  | none => fr

noncomputable def gBody : Code := Tryz.f3.body.getD .skip
noncomputable def gR0 : Code := seqL gBody
noncomputable def gR1 : Code := seqL (seqL (seqR gBody))
noncomputable def gThen : Code := thenC (seqR (seqL (seqR gBody)))
noncomputable def gRest : Code := seqR (seqR gBody)
theorem gBody_eq : gBody = .seq gR0 (.seq (.seq gR1 (.cond (.tmp 25) gThen .skip)) gRest) := by kernel_rfl

noncomputable def gFr (len : Nat) (e nw n : Int) : Frm := { fid := 0, fn := 3, nt := max Tryz.f3.ntmps 4, tmps := argTmps [.slice .no len [], .int .u32 e, .int .u64 nw, .int .u64 n] 0 }
noncomputable def gFr0 (len : Nat) (e nw n : Int) : Frm := endOf (exec E1 2 gR0 (gFr len e nw n) { nfr := 1 }) (gFr len e nw n)
noncomputable def gFr1 (len : Nat) (e nw n : Int) : Frm := endOf (exec E1 2 gR1 (gFr0 len e nw n) { nfr := 1 }) (gFr len e nw n)

theorem g0_run (len : Nat) (e nw n : Int) : exec E1 2 gR0 (gFr len e nw n) { nfr := 1 } = some (.normal, gFr0 len e nw n, { nfr := 1 }) := by kernel_rfl
theorem g1_run (len : Nat) (e nw n : Int) : exec E1 2 gR1 (gFr0 len e nw n) { nfr := 1 } = some (.normal, gFr1 len e nw n, { nfr := 1 }) := by kernel_rfl
theorem g1_val (len : Nat) (e nw n : Int) : (gFr1 len e nw n).val (.tmp 25) = some (.bool (decide ((len : Int) > 2000))) := by kernel_rfl

/-- What a run leaves in slot 8, if it returns. -/
def slot8 : Option (AEx × Frm × Sig) → Option AV
  | some (.ret, fr, _) => fr.tmps.get 8
  | _ => none

theorem gThen_run (len : Nat) (e nw n : Int) : slot8 (exec E1 4000 gThen (gFr1 len e nw n) { nfr := 1 }) = some (.bool true) := by kernel_rfl
theorem gRest_run (len : Nat) (e nw n : Int) : slot8 (exec E1 4000 gRest (gFr1 len e nw n) { nfr := 1 }) = some (.bool true) := by kernel_rfl
theorem gNil_run (e nw n : Int) : slot8 (exec E1 4000 gBody { fid := 0, fn := 3, nt := max Tryz.f3.ntmps 4, tmps := argTmps [.nils, .int .u32 e, .int .u64 nw, .int .u64 n] 0 } { nfr := 1 }) = some (.bool true) := by kernel_rfl

theorem slot8_inv {r : Option (AEx × Frm × Sig)} {v : AV} (h : slot8 r = some v) : ∃ fr σ, r = some (.ret, fr, σ) ∧ fr.tmps.get 8 = some v := by
  unfold slot8 at h
  split at h
  · exact ⟨_, _, rfl, h⟩
  · cases h

theorem exec_head {E : Env} {n : Nat} {R0 R1 A rest : Code} {c : Operand} {fr fr0 fr1 : Frm} {σ σ0 σ1 : Sig} {r : AEx × Frm × Sig}
    (h0 : exec E (n + 4) R0 fr σ = some (.normal, fr0, σ0)) (h1 : exec E (n + 2) R1 fr0 σ0 = some (.normal, fr1, σ1))
    (h : (fr1.val c = some (.bool false) ∧ exec E (n + 3) rest fr1 σ1 = some r) ∨ (fr1.val c = some (.bool true) ∧ ∃ fr2 σ2, r = (.ret, fr2, σ2) ∧ exec E (n + 1) A fr1 σ1 = some (.ret, fr2, σ2))) :
    exec E (n + 5) (.seq R0 (.seq (.seq R1 (.cond c A .skip)) rest)) fr σ = some r := by
  rw [exec_seq, h0]
  simp only
  rw [exec_seq, exec_seq, h1]
  simp only
  rw [exec_cond]
  rcases h with ⟨hc, h⟩ | ⟨hc, fr2, σ2, rfl, h⟩
  · rw [hc]
    simp only [exec_skip]
    exact h
  · rw [hc]
    simp only [h]

theorem call_of {E : Env} {n : Nat} {f : FuncId} {args : List AV} {σ σ' : Sig} {fn : Func} {c : Code} {fr' : Frm} {vs : List AV} (ho : E.ov f = none) (hf : E.fn f = some fn) (hb : fn.body = some c)
    (h : exec E n c { fid := σ.nfr, fn := f, nt := max fn.ntmps args.length, tmps := argTmps args 0 } { σ with nfr := σ.nfr + 1 } = some (.ret, fr', σ')) (hr : resultsA E fr' σ' fn.results.toList = some vs) : call E n f args σ = some (oneOf vs, σ') := by
  unfold call callWith
  simp only [ho, hf, hb, h, hr]

/-- What the first argument is to AE: nil, or a slice of which no more than the length is asked. -/
inductive RawAV : AV → Prop where
  | nil : RawAV .nils
  | some (len : Nat) : RawAV (.slice .no len [])

theorem gate_run {raw : AV} (hraw : RawAV raw) (e nw n : Int) : ∃ σ', call E1 4005 3 [raw, .int .u32 e, .int .u64 nw, .int .u64 n] {} = some (.bool true, σ') := by
  have ho : E1.ov 3 = none := rfl
  have hf : E1.fn 3 = some Tryz.f3 := rfl
  have hb : Tryz.f3.body = some gBody := rfl
  suffices h : ∃ fr' σ', exec E1 4005 gBody { fid := 0, fn := 3, nt := max Tryz.f3.ntmps 4, tmps := argTmps [raw, .int .u32 e, .int .u64 nw, .int .u64 n] 0 } { nfr := 1 } = some (.ret, fr', σ') ∧ fr'.tmps.get 8 = some (.bool true) by
    obtain ⟨fr', σ', h1, h2⟩ := h
    refine ⟨σ', call_of (vs := [.bool true]) ho hf hb h1 ?_⟩
    rw [show Tryz.f3.results.toList = [.tmp 8] from rfl]
    simp [resultsA, resultA, h2]
  cases hraw with
  | nil =>
    obtain ⟨fr', σ', h1, h2⟩ := slot8_inv (gNil_run e nw n)
    exact ⟨fr', σ', exec_more (by omega) h1, h2⟩
  | some len =>
    have g0 : exec E1 (4000 + 4) gR0 (gFr len e nw n) { nfr := 1 } = _ := exec_more (by omega) (g0_run len e nw n)
    have g1 : exec E1 (4000 + 2) gR1 (gFr0 len e nw n) { nfr := 1 } = _ := exec_more (by omega) (g1_run len e nw n)
    by_cases hl : (len : Int) > 2000
    · obtain ⟨fr', σ', h1, h2⟩ := slot8_inv (gThen_run len e nw n)
      refine ⟨fr', σ', ?_, h2⟩
      rw [gBody_eq]
      exact exec_head (n := 4000) g0 g1 (.inr ⟨by rw [g1_val, decide_eq_true hl], fr', σ', rfl, exec_more (by omega) h1⟩)
    · obtain ⟨fr', σ', h1, h2⟩ := slot8_inv (gRest_run len e nw n)
      refine ⟨fr', σ', ?_, h2⟩
      rw [gBody_eq]
      exact exec_head (n := 4000) g0 g1 (.inl ⟨by rw [g1_val, decide_eq_false hl], exec_more (by omega) h1⟩)

theorem gate_calls {raw : AV} (hraw : RawAV raw) {e nw n : Int} {w : World} (hS : RepS E1 Gh.none {} w) {c0 : Value} (h0 : VRel Gh.none w raw c0) :
    Calls Tryz.prog 3 #[c0, .int .u32 e, .int .u64 nw, .int .u64 n] w fun r w' => r = .returned (.bool true) ∧ (∀ b, b < w.heap.size → w'.heap[b]? = w.heap[b]?) ∧ w.heap.size ≤ w'.heap.size ∧ w'.os = w.os ∧ w'.output = w.output := by
  obtain ⟨σ', h⟩ := gate_run hraw e nw n
  refine ((call1_ok _ _ _ _ _ _ h).2 Gh.none w _ hS (.cons h0 (.cons (.int _ _) (.cons (.int _ _) (.cons (.int _ _) .nil))))).mono ?_
  rintro r w' ⟨cv, Γ', rfl, hx, _, hv, _⟩
  cases hv
  exact ⟨rfl, fun b hb => (hx.foreign b hb rfl).2, hx.size, hx.os, hx.output⟩
end Go.Ax.Seat
