/-
  AE at this seat: EvlogNil.
-/
import Derived.Test.YtjpcmbamjignnaaGreatDoorAxEvent
namespace Go.Ax.Seat
open Go Go.Proofs
set_option maxHeartbeats 4000000
set_option maxRecDepth 20000

def rawsOf : List AV → Option (List Raw)
  | [] => some []
  | .int .u8 k :: .int .i64 i :: .int .u64 b :: .str s :: r => match rawsOf r with
    | some l => some ((k, i, b, s) :: l)
    | none => none
  | _ => none

/-- Raw.Event. -/
def eventA : List AV → Sig → Option (AV × Sig)
  | [.agg [.int .u8 t, .nils]], σ => some (.agg [.int .u8 t, .nils], σ)
  | [.agg [.int .u8 t, .slice _ n cells]], σ => match rawsOf cells with
    | some l => if l.length = n ∧ n < 2 ^ 63 then some (.agg [.int .u8 t, if n = 0 then .nils else .slice .no (min n 30) (outsC (l.take (min n 30)))], σ) else none
    | none => none
  | _, _ => none

def textsOf : List AV → Option (List ByteArray)
  | [] => some []
  | .int .u8 _ :: .int .i64 _ :: .float .f64 _ :: .str s :: r => match textsOf r with
    | some l => some (s :: l)
    | none => none
  | _ => none

/-- ref5.Great, of few fields. -/
def greatA : List AV → Sig → Option (AV × Sig)
  | [.agg [.int .u8 _, .nils]], σ => some (.bool false, σ)
  | [.agg [.int .u8 _, .slice _ n cells]], σ => match textsOf cells with
    | some l => if l.length = n ∧ n ≤ 40 then some (.bool (decide ((3000 : Int) < ((n + (l.map fun s => min s.size 3000).sum : Nat) : Int))), σ) else none
    | none => none
  | _, _ => none

noncomputable def E2 : Env := E1.with 42 eventA
noncomputable def E3 : Env := E2.with 93 greatA
/-- The methods that are called at a nil log, and the chapter's example. -/
noncomputable def nilHs (f : FuncId) : Option (List AV → Sig → Option (AV × Sig)) :=
  if f = 38 then some (isoH E0 400 38) else if 39 ≤ f ∧ f ≤ 50 ∧ f ≠ 42 then some (isoH E0 30 f) else none
noncomputable def E4 : Env := E3.withs nilHs

theorem fixed_at (σ : Sig) : isoH E0 400 38 [] σ = some (.bool true, σ) := by kernel_rfl
theorem note_at (a b : Int) (σ : Sig) : isoH E0 30 39 [.nilp, .int .u32 a, .int .u64 b] σ = some (.tuple [], σ) := by kernel_rfl
theorem noteTime_at (a : Int) (σ : Sig) : isoH E0 30 40 [.nilp, .int .u64 a] σ = some (.tuple [], σ) := by kernel_rfl
theorem publish_nil (a b c t : Int) (σ : Sig) : isoH E0 30 41 [.nilp, .int .u32 a, .int .u64 b, .int .u64 c, .agg [.int .u8 t, .nils]] σ = some (.tuple [.int .u64 0, .int .i64 1], σ) := by kernel_rfl
theorem get_at (a : Int) (σ : Sig) : isoH E0 30 43 [.nilp, .int .u64 a] σ = some (.tuple [.agg [.int .u32 0, .int .u64 0, .int .u64 0, .int .u8 0, .nils], .int .i64 1], σ) := by kernel_rfl
theorem sync_at (σ : Sig) : isoH E0 30 44 [.nilp] σ = some (.int .i64 1, σ) := by kernel_rfl
theorem trim_at (a : Int) (σ : Sig) : isoH E0 30 45 [.nilp, .int .u64 a] σ = some (.int .i64 1, σ) := by kernel_rfl
theorem seq_at (a : Int) (σ : Sig) : isoH E0 30 46 [.nilp, .int .u32 a] σ = some (.int .u64 0, σ) := by kernel_rfl
theorem base_at (σ : Sig) : isoH E0 30 47 [.nilp] σ = some (.int .u64 0, σ) := by kernel_rfl
theorem end_at (σ : Sig) : isoH E0 30 48 [.nilp] σ = some (.int .u64 0, σ) := by kernel_rfl
theorem safe_at (σ : Sig) : isoH E0 30 49 [.nilp] σ = some (.int .u64 0, σ) := by kernel_rfl
theorem pubs_at (σ : Sig) : isoH E0 30 50 [.nilp] σ = some (.nils, σ) := by kernel_rfl

theorem publish_slice (a b c t : Int) (m : Nat) (cs : List AV) (hp : AV.pures cs = true) (hw : AV.weaks cs = cs) (σ : Sig) : isoH E0 30 41 [.nilp, .int .u32 a, .int .u64 b, .int .u64 c, .agg [.int .u8 t, .slice .no m cs]] σ = some (.tuple [.int .u64 0, .int .i64 1], σ) := by
  have e1 : AV.pures [.nilp, .int .u32 a, .int .u64 b, .int .u64 c, .agg [.int .u8 t, .slice .no m cs]] = true := by simp [AV.pures, AV.pure, hp]
  have e2 : AV.weaks [.nilp, .int .u32 a, .int .u64 b, .int .u64 c, .agg [.int .u8 t, .slice .no m cs]] = [.nilp, .int .u32 a, .int .u64 b, .int .u64 c, .agg [.int .u8 t, .slice .no m cs]] := by simp [AV.weaks, AV.weak, hw]
  have e3 : (call E0 30 41 [.nilp, .int .u32 a, .int .u64 b, .int .u64 c, .agg [.int .u8 t, .slice .no m cs]] {}).map (·.1) = some (.tuple [.int .u64 0, .int .i64 1]) := by kernel_rfl
  obtain ⟨⟨v, σ'⟩, h1, h2⟩ := Option.map_eq_some_iff.1 e3
  simp only at h2
  subst h2
  unfold isoH
  rw [if_pos e1, e2, h1]
  simp [AV.pure, AV.pures, AV.weak, AV.weaks]

theorem ti91 : E4.ti 91 = some { size := 1, bytes := 24, zero := [.nils], kind := .slice 90 } := rfl
theorem ti90 : E4.ti 90 = some { size := 9, bytes := 96, zero := [.int .i64 0, .int .u32 0, .int .u64 0, .int .u64 0, .int .u8 0, .nils, .int .u8 0, .int .u8 0, .nils], kind := .struct [(0, 3), (1, 85), (2, 23), (3, 23), (4, 88), (6, 5), (7, 5), (8, 30)] } := rfl
theorem ti30 : E4.ti 30 = some { size := 1, bytes := 24, zero := [.nils], kind := .slice 3 } := rfl
theorem ti88' : E4.ti 88 = some { size := 2, bytes := 32, zero := [.int .u8 0, .nils], kind := .struct [(0, 5), (1, 86)] } := rfl

theorem len91 (p : Perm) (n : Nat) (cs : List AV) : lenA E4 91 (.slice p n cs) = some (.int .i64 n) := by simp [lenA, ti91]

theorem cut_run {kd pb sq nw t N K : Int} {F Kp X : AV} {b : Bool} {n : Nat} (hev : ∀ σ, eventA [.agg [.int .u8 t, F]] σ = some (.agg [.int .u8 t, X], σ)) (hgr : ∀ σ, greatA [.agg [.int .u8 t, X]] σ = some (.bool b, σ))
    (hK : lenA E4 30 Kp = some (.int .i64 n)) (hF1 : F.one = true) (hK1 : Kp.one = true) (f : Nat) (σ : Sig) :
    ∃ σ', callWith E4 (exec E4 (f + 30)) 37 [.slice .exact 1 [.int .i64 kd, .int .u32 pb, .int .u64 sq, .int .u64 nw, .int .u8 t, F, .int .u8 N, .int .u8 K, Kp]] σ =
      some ((if b || decide (100 < (n : Int)) then .slice .no 0 [] else .slice .exact 1 [.int .i64 kd, .int .u32 pb, .int .u64 sq, .int .u64 nw, .int .u8 t, F, .int .u8 N, .int .u8 K, Kp]), σ') := by
  have hov : E4.ov 37 = none := rfl
  have hfn : E4.fn 37 = some Tryz.f37 := rfl
  have hov42 : E4.ov 42 = some eventA := rfl
  have hov93 : E4.ov 93 = some greatA := rfl
  have hext42 : E4.ext 42 = none := rfl
  have hext93 : E4.ext 93 = none := rfl
  have hesc : E4.esc 37 4 = false := rfl
  have w1 : IntKind.i64.wrap 1 = 1 := by decide
  obtain ⟨B, hB⟩ : ∃ B, B = loopOf Tryz.f37 := ⟨_, rfl⟩
  obtain ⟨R, hR⟩ : ∃ R : Nat → Frm → Sig → Option (AEx × Frm × Sig), R = fun m fr σ => exec E4 m (.loop B) fr σ := ⟨_, rfl⟩
  have h2 : ∀ m fr σ, exec E4 (m + 2) (.loop B) fr σ = (match exec E4 (m + 1) B fr σ with
    | some (.normal, fr, σ) => (match exec E4 m B fr σ with
      | some (.normal, fr, σ) => R m fr σ
      | r => r)
    | r => r) := by subst hR; exact fun _ _ _ => rfl
  clear hR
  simp only [loopOf, bodyOf, Tryz.f37, loop1, Option.getD] at hB
  simp only [callWith, hov, hfn, Tryz.f37]
  rw [← hB]
  simp only [exec_seq, exec_cond, exec_block, exec_region, exec_skip, exec_exit, exec_ret, evalOps_cons, evalOps_nil, h2]
  clear h2
  subst hB
  simp only [exec_seq, exec_cond, exec_block, exec_region, exec_skip, exec_exit, exec_ret, evalOps_cons, evalOps_nil]
  cases b <;> by_cases h100 : 100 < (n : Int) <;> simp [stepOp, Frm.inSlots, wantedA, evalOp, clsOf, evalP, evalL, evalE, allocA, localA, storeA, nextGen, hesc, argTmps, AV.cells, one_int, one_nils, one_slice, hF1, hK1, Frm.val, Frm.put, T.get_set, T.get_leaf, binA_lss, binA_gtr, binA_add,
    fieldAddrA, fieldOf, ti91, ti90, ti30, ti88', addOff, vals, pvals, ofVal, ofScal, w1, len91, hK, h100, loadA, sliceA, sliceParts, bound, oval, cutSlice, readAt, cut, paste, TI.ofCells, TK.agg, resultsA, resultA, oneOf, indexAddrA, callA, callWith, hov42, hov93, hext42, hext93, hev, hgr]

theorem tn2 : E4.ti 2 = some (TI.mk 1 8 [(.int .i64 (0 : Int))] (.int .i64)) := rfl
theorem tn3 : E4.ti 3 = some (TI.mk 1 8 [(.int .i64 (0 : Int))] (.int .i64)) := rfl
theorem tn5 : E4.ti 5 = some (TI.mk 1 1 [(.int .u8 (0 : Int))] (.int .u8)) := rfl
theorem tn9 : E4.ti 9 = some (TI.mk 1 16 [(.str (ByteArray.mk (Array.mk [])))] .str) := rfl
theorem tn23 : E4.ti 23 = some (TI.mk 1 8 [(.int .u64 (0 : Int))] (.int .u64)) := rfl
theorem tn30 : E4.ti 30 = some (TI.mk 1 24 [.nils] (.slice 3)) := rfl
theorem tn48 : E4.ti 48 = some (TI.mk 1 8 [(.int .i64 (0 : Int))] (.int .i64)) := rfl
theorem tn85 : E4.ti 85 = some (TI.mk 1 4 [(.int .u32 (0 : Int))] (.int .u32)) := rfl
theorem tn86 : E4.ti 86 = some (TI.mk 1 24 [.nils] (.slice 175)) := rfl
theorem tn88 : E4.ti 88 = some (TI.mk 2 32 [(.int .u8 (0 : Int)), .nils] (.struct [(0, 5), (1, 86)])) := rfl
theorem tn90 : E4.ti 90 = some (TI.mk 9 96 [(.int .i64 (0 : Int)), (.int .u32 (0 : Int)), (.int .u64 (0 : Int)), (.int .u64 (0 : Int)), (.int .u8 (0 : Int)), .nils, (.int .u8 (0 : Int)), (.int .u8 (0 : Int)), .nils] (.struct [(0, 3), (1, 85), (2, 23), (3, 23), (4, 88), (6, 5), (7, 5), (8, 30)])) := rfl
theorem tn91 : E4.ti 91 = some (TI.mk 1 24 [.nils] (.slice 90)) := rfl
theorem tn93 : E4.ti 93 = some (TI.mk 1 8 [.nilp] (.ptr 172)) := rfl
theorem tn98 : E4.ti 98 = some (TI.mk 1 24 [.nils] (.slice 178)) := rfl
theorem tn100 : E4.ti 100 = some (TI.mk 2 32 [(.int .u8 (0 : Int)), .nils] (.struct [(0, 5), (1, 98)])) := rfl
theorem tn103 : E4.ti 103 = some (TI.mk 5 56 [(.int .u32 (0 : Int)), (.int .u64 (0 : Int)), (.int .u64 (0 : Int)), (.int .u8 (0 : Int)), .nils] (.struct [(0, 85), (1, 23), (2, 23), (3, 100)])) := rfl
theorem tn107 : E4.ti 107 = some (TI.mk 1 24 [.nils] (.slice 85)) := rfl
theorem tn175 : E4.ti 175 = some (TI.mk 4 40 [(.int .u8 (0 : Int)), (.int .i64 (0 : Int)), (.int .u64 (0 : Int)), (.str (ByteArray.mk (Array.mk [])))] (.struct [(0, 5), (1, 2), (2, 23), (3, 9)])) := rfl
theorem tn176 : E4.ti 176 = some (TI.mk 1 8 [(.float .f64 0)] (.float .f64)) := rfl
theorem tn178 : E4.ti 178 = some (TI.mk 4 40 [(.int .u8 (0 : Int)), (.int .i64 (0 : Int)), (.float .f64 0), (.str (ByteArray.mk (Array.mk [])))] (.struct [(0, 5), (1, 2), (2, 176), (3, 9)])) := rfl

theorem nil_run {kd pb sq nw t N K : Int} {F Kp X : AV} {b : Bool} {n : Nat} (hev : ∀ σ, eventA [.agg [.int .u8 t, F]] σ = some (.agg [.int .u8 t, X], σ)) (hgr : ∀ σ, greatA [.agg [.int .u8 t, X]] σ = some (.bool b, σ))
    (hpub : ∀ a b c σ, isoH E0 30 41 [.nilp, .int .u32 a, .int .u64 b, .int .u64 c, .agg [.int .u8 t, X]] σ = some (.tuple [.int .u64 0, .int .i64 1], σ))
    (hK : lenA E4 30 Kp = some (.int .i64 n)) (hF1 : F.one = true) (hK1 : Kp.one = true) :
    ∃ σ', call E4 100 6 [.agg [.int .i64 kd, .int .u32 pb, .int .u64 sq, .int .u64 nw, .int .u8 t, F, .int .u8 N, .int .u8 K, Kp]] {} = some (.bool true, σ') := by
  have hov : E4.ov 6 = none := rfl
  have hfn : E4.fn 6 = some Tryz.f6 := rfl
  have hx37 : E4.ext 37 = none := rfl
  have hx38 : E4.ext 38 = none := rfl
  have hx39 : E4.ext 39 = none := rfl
  have hx40 : E4.ext 40 = none := rfl
  have hx41 : E4.ext 41 = none := rfl
  have hx42 : E4.ext 42 = none := rfl
  have hx43 : E4.ext 43 = none := rfl
  have hx44 : E4.ext 44 = none := rfl
  have hx45 : E4.ext 45 = none := rfl
  have hx46 : E4.ext 46 = none := rfl
  have hx47 : E4.ext 47 = none := rfl
  have hx48 : E4.ext 48 = none := rfl
  have hx49 : E4.ext 49 = none := rfl
  have hx50 : E4.ext 50 = none := rfl
  have c38 : ∀ run σ, callWith E4 run 38 [] σ = some (.bool true, σ) := fun run σ => fixed_at σ
  have c39 : ∀ run a b σ, callWith E4 run 39 [.nilp, .int .u32 a, .int .u64 b] σ = some (.tuple [], σ) := fun run a b σ => note_at a b σ
  have c40 : ∀ run a σ, callWith E4 run 40 [.nilp, .int .u64 a] σ = some (.tuple [], σ) := fun run a σ => noteTime_at a σ
  have c41 : ∀ run a b c σ, callWith E4 run 41 [.nilp, .int .u32 a, .int .u64 b, .int .u64 c, .agg [.int .u8 t, X]] σ = some (.tuple [.int .u64 0, .int .i64 1], σ) := fun run a b c σ => hpub a b c σ
  have c42 : ∀ run σ, callWith E4 run 42 [.agg [.int .u8 t, F]] σ = some (.agg [.int .u8 t, X], σ) := fun run σ => hev σ
  have c43 : ∀ run a σ, callWith E4 run 43 [.nilp, .int .u64 a] σ = some (.tuple [.agg [.int .u32 0, .int .u64 0, .int .u64 0, .int .u8 0, .nils], .int .i64 1], σ) := fun run a σ => get_at a σ
  have c44 : ∀ run σ, callWith E4 run 44 [.nilp] σ = some (.int .i64 1, σ) := fun run σ => sync_at σ
  have c45 : ∀ run a σ, callWith E4 run 45 [.nilp, .int .u64 a] σ = some (.int .i64 1, σ) := fun run a σ => trim_at a σ
  have c46 : ∀ run a σ, callWith E4 run 46 [.nilp, .int .u32 a] σ = some (.int .u64 0, σ) := fun run a σ => seq_at a σ
  have c47 : ∀ run σ, callWith E4 run 47 [.nilp] σ = some (.int .u64 0, σ) := fun run σ => base_at σ
  have c48 : ∀ run σ, callWith E4 run 48 [.nilp] σ = some (.int .u64 0, σ) := fun run σ => end_at σ
  have c49 : ∀ run σ, callWith E4 run 49 [.nilp] σ = some (.int .u64 0, σ) := fun run σ => safe_at σ
  have c50 : ∀ run σ, callWith E4 run 50 [.nilp] σ = some (.nils, σ) := fun run σ => pubs_at σ
  have hesc1 : E4.esc 6 1 = false := rfl
  have hesc6 : E4.esc 6 6 = false := rfl
  have hplan : E4.plan 6 6 = [(2, 0, 1), (4, 0, 1), (6, 0, 1)] := rfl
  obtain ⟨s0, hcut⟩ : ∃ s0 : Nat → Sig → Sig, ∀ f σ, callWith E4 (exec E4 (f + 30)) 37 [.slice .exact 1 [.int .i64 kd, .int .u32 pb, .int .u64 sq, .int .u64 nw, .int .u8 t, F, .int .u8 N, .int .u8 K, Kp]] σ =
      some ((if b || decide (100 < (n : Int)) then .slice .no 0 [] else .slice .exact 1 [.int .i64 kd, .int .u32 pb, .int .u64 sq, .int .u64 nw, .int .u8 t, F, .int .u8 N, .int .u8 K, Kp]), s0 f σ) := by
    refine ⟨fun f σ => Classical.choose (cut_run (kd := kd) (pb := pb) (sq := sq) (nw := nw) (N := N) (K := K) hev hgr hK hF1 hK1 f σ), fun f σ => ?_⟩
    exact Classical.choose_spec (cut_run (kd := kd) (pb := pb) (sq := sq) (nw := nw) (N := N) (K := K) hev hgr hK hF1 hK1 f σ)
  simp only [call, callWith, hov, hfn, Tryz.f6]
  simp only [exec_seq, exec_cond, exec_block, exec_region, exec_drawn, exec_skip, exec_exit, exec_ret, evalOps_cons, evalOps_nil]
  cases hb : (b || decide (100 < (n : Int))) <;> simp only [hb] at hcut <;> simp [stepOp, Frm.inSlots, wantedA, evalOp, clsOf, evalP, evalL, evalE, allocA, localA, storeA, nextGen, hesc1, hesc6, argTmps, AV.cells, one_int, one_nils, one_slice, hF1, hK1, Frm.val, Frm.put, T.get_set, T.get_leaf, binA_lss, binA_gtr, binA_add, binA_eql,
    fieldAddrA, fieldOf, tn2, tn3, tn5, tn9, tn23, tn30, tn48, tn85, tn86, tn88, tn90, tn91, tn93, tn98, tn100, tn103, tn107, tn175, tn176, tn178, addOff, vals, pvals, ofVal, ofScal, len91, hK, loadA, sliceA, sliceParts, bound, oval, cutSlice, readAt, cut, paste, TI.ofCells, TK.agg, resultsA, resultA, oneOf, indexAddrA, fillA, zerosA, callA, lenA, hcut, hplan, evalDrawn, evalTrace, evalOps, ownAlloc, sameRead, extractA,
    hx37, hx38, hx39, hx40, hx41, hx42, hx43, hx44, hx45, hx46, hx47, hx48, hx49, hx50, c38, c39, c40, c41, c42, c43, c44, c45, c46, c47, c48, c49, c50]
end Go.Ax.Seat
