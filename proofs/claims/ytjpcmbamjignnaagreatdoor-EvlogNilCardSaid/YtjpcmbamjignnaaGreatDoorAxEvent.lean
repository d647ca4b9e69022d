/-
  AE at this seat: Raw.Event.
-/
import Derived.Test.YtjpcmbamjignnaaGreatDoorAxGreat
namespace Go.Ax.Seat
open Go Go.Proofs
set_option maxHeartbeats 4000000
set_option maxRecDepth 20000

abbrev Raw := Int × Int × Int × ByteArray
def inC (r : Raw) : List AV := [.int .u8 r.1, .int .i64 r.2.1, .int .u64 r.2.2.1, .str r.2.2.2]
def outC (r : Raw) : List AV := [.int .u8 r.1, .int .i64 r.2.1, .float .f64 r.2.2.1.toNat, .str r.2.2.2]
def insC (l : List Raw) : List AV := l.flatMap inC
def outsC (l : List Raw) : List AV := l.flatMap outC

theorem insC_length (l : List Raw) : (insC l).length = l.length * 4 := by
  induction l with
  | nil => rfl
  | cons r l ih => show (inC r ++ insC l).length = _; rw [List.length_append, ih]; simp [inC]; omega
theorem outsC_length (l : List Raw) : (outsC l).length = l.length * 4 := by
  induction l with
  | nil => rfl
  | cons r l ih => show (outC r ++ outsC l).length = _; rw [List.length_append, ih]; simp [outC]; omega
theorem insC_cut : ∀ (l : List Raw) (i : Nat) (h : i < l.length), List.take 4 (List.drop (i * 4) (insC l)) = inC l[i]
  | r :: l, 0, _ => by simp [insC, inC]
  | r :: l, i + 1, h => by
    have e : (i + 1) * 4 = (inC r).length + i * 4 := by simp [inC]; omega
    rw [e]
    simp only [insC, List.flatMap_cons, List.drop_length_add_append, List.getElem_cons_succ]
    exact insC_cut l i (by simpa using h)

theorem ti86 : E1.ti 86 = some { size := 1, bytes := 24, zero := [.nils], kind := .slice 175 } := rfl
theorem ti88 : E1.ti 88 = some { size := 2, bytes := 32, zero := [.int .u8 0, .nils], kind := .struct [(0, 5), (1, 86)] } := rfl
theorem ti175 : E1.ti 175 = some { size := 4, bytes := 40, zero := [.int .u8 0, .int .i64 0, .int .u64 0, .str ⟨#[]⟩], kind := .struct [(0, 5), (1, 2), (2, 23), (3, 9)] } := rfl

/-- Where Event's loop is. -/
structure EvInv (t : Int) (l : List Raw) (i : Nat) (S : AV) (fr : Frm) : Prop where
  fid : fr.fid = 0
  fn : fr.fn = 42
  nt : fr.nt = 28
  h3 : fr.tmps.get 3 = some (.loc 0 3 0 0)
  h10 : fr.tmps.get 10 = some (.slice .no l.length (insC l))
  h11 : fr.tmps.get 11 = some (.int .i64 l.length)
  h12 : fr.tmps.get 12 = some (.int .i64 i)
  hl2 : fr.locs.get 2 = some (0, .cells [.int .u8 0, .nils])
  h2 : fr.tmps.get 2 = some (.loc 0 2 0 0)
  hl : fr.locs.get 3 = some (0, .cells [.int .u8 t, S])

theorem ev_step_late {t : Int} {l : List Raw} {i k : Nat} {S : AV} {fr : Frm} {σ : Sig} (h : EvInv t l i S fr) (hi : i < l.length) (h30 : 30 ≤ i) (hlen : l.length < 2 ^ 63) :
    ∃ fr', exec E1 (k + 40) (loopOf Tryz.f42) fr σ = some (.normal, fr', σ) ∧ EvInv t l (i + 1) S fr' := by
  obtain ⟨hfid, hfn, hnt, h3, h10, h11, h12, hl2, h2, hl⟩ := h
  have hc := insC_length l
  have hcut : i * 4 + 4 ≤ l.length * 4 := by omega
  have ht := insC_cut l i hi
  have h30' : ¬ (i : Int) < 30 := by omega
  have hw2 : IntKind.i64.wrap ((i : Int) + 1) = ((i + 1 : Nat) : Int) := by
    rw [wrap_i64 (by omega) (by omega)]; push_cast; rfl
  have hesc : E1.esc 42 5 = false := rfl
  simp only [loopOf, bodyOf, Tryz.f42, loop1, Option.getD, exec_seq, exec_cond, exec_block, exec_region, exec_skip, exec_exit, evalOps_cons, evalOps_nil]
  simp [stepOp, Frm.inSlots, wantedA, evalOp, clsOf, evalP, evalL, evalE, allocA, localA, storeA, hesc, Frm.val, Frm.put, hfid, hfn, hnt, h3, h10, h11, h12, T.get_set, hl, binA_lss, binA_add,
    fieldAddrA, fieldOf, ti100, ti98, ti178, ti9, ti86, ti88, ti175, addOff, vals, ofVal, ofScal, lenA, indexAddrA, hc, hi, loadA, readAt, cut, TI.ofCells, TK.agg, hcut, ht, h30', paste, AV.cells, AV.one, inC]
  rw [hw2]
  refine ⟨rfl, rfl, rfl, ?_, ?_, ?_, ?_, ?_, ?_, ?_⟩ <;> simp [T.get_set, h3, h10, h11, hl, h2, hl2]

theorem ev_step_first {t : Int} {l : List Raw} {i k : Nat} {fr : Frm} {σ : Sig} (h : EvInv t l i .nils fr) (hi : i < l.length) (h30 : i < 30) :
    ∃ fr' σ', exec E1 (k + 40) (loopOf Tryz.f42) fr σ = some (.normal, fr', σ') ∧ σ'.tops.get σ.ngrp = some 4 ∧ EvInv t l (i + 1) (.slice (.opn σ.ngrp 4) 1 (outC l[i])) fr' := by
  obtain ⟨hfid, hfn, hnt, h3, h10, h11, h12, hl2, h2, hl⟩ := h
  have hc := insC_length l
  have hcut : i * 4 + 4 ≤ l.length * 4 := by omega
  have ht := insC_cut l i hi
  have h30' : (i : Int) < 30 := by omega
  have hw2 : IntKind.i64.wrap ((i : Int) + 1) = ((i + 1 : Nat) : Int) := by
    rw [wrap_i64 (by omega) (by omega)]; push_cast; rfl
  have hesc : E1.esc 42 5 = false := rfl
  have hplan : E1.plan 42 6 = [(1, 0, 1)] := rfl
  have hov : E1.ov 96 = some valueA := rfl
  have hext : E1.ext 96 = none := rfl
  simp only [loopOf, bodyOf, Tryz.f42, loop1, Option.getD, exec_seq, exec_cond, exec_block, exec_region, exec_drawn, exec_skip, exec_exit, evalOps_cons, evalOps_nil]
  simp [stepOp, Frm.inSlots, wantedA, evalOp, clsOf, evalP, evalL, evalE, allocA, localA, storeA, hesc, Frm.val, Frm.put, hfid, hfn, hnt, h3, h10, h11, h12, T.get_set, hl, binA_lss, binA_add,
    fieldAddrA, fieldOf, ti100, ti98, ti178, ti9, ti86, ti88, ti175, addOff, vals, pvals, ofVal, ofScal, lenA, indexAddrA, hc, hi, loadA, readAt, cut, TI.ofCells, TK.agg, hcut, ht, h30', paste, AV.cells, AV.one, inC,
    evalDrawn, evalTrace, evalOps, ownAlloc, hplan, sameRead, callA, callWith, hov, hext, valueA, fillA, zerosA, appendA, sliceParts, addedParts]
  rw [hw2]
  refine ⟨_, _, ⟨rfl, rfl⟩, by simp [T.get_set], rfl, rfl, rfl, ?_, ?_, ?_, ?_, ?_, ?_, ?_⟩ <;> simp [T.get_set, h3, h10, h11, hl, h2, hl2, outC]

theorem ev_step_next {t : Int} {l : List Raw} {i k g m : Nat} {cs : List AV} {fr : Frm} {σ : Sig} (h : EvInv t l i (.slice (.opn g 4) m cs) fr) (hi : i < l.length) (h30 : i < 30) (hm : m ≤ 30) (hcs : cs.length = m * 4) (htop : σ.tops.get g = some (m * 4)) :
    ∃ fr' σ', exec E1 (k + 40) (loopOf Tryz.f42) fr σ = some (.normal, fr', σ') ∧ σ'.tops.get g = some ((m + 1) * 4) ∧ EvInv t l (i + 1) (.slice (.opn g 4) (m + 1) (cs ++ outC l[i])) fr' := by
  obtain ⟨hfid, hfn, hnt, h3, h10, h11, h12, hl2, h2, hl⟩ := h
  have hc := insC_length l
  have hcut : i * 4 + 4 ≤ l.length * 4 := by omega
  have ht := insC_cut l i hi
  have h30' : (i : Int) < 30 := by omega
  have hbig : ¬ 2 ^ 46 < (m + 1) * 40 := by omega
  have hbig' : ¬ 70368744177664 < (m + 1) * 40 := by omega
  have hw2 : IntKind.i64.wrap ((i : Int) + 1) = ((i + 1 : Nat) : Int) := by
    rw [wrap_i64 (by omega) (by omega)]; push_cast; rfl
  have hesc : E1.esc 42 5 = false := rfl
  have hplan : E1.plan 42 6 = [(1, 0, 1)] := rfl
  have hov : E1.ov 96 = some valueA := rfl
  have hext : E1.ext 96 = none := rfl
  simp only [loopOf, bodyOf, Tryz.f42, loop1, Option.getD, exec_seq, exec_cond, exec_block, exec_region, exec_drawn, exec_skip, exec_exit, evalOps_cons, evalOps_nil]
  simp [stepOp, Frm.inSlots, wantedA, evalOp, clsOf, evalP, evalL, evalE, allocA, localA, storeA, hesc, Frm.val, Frm.put, hfid, hfn, hnt, h3, h10, h11, h12, T.get_set, hl, binA_lss, binA_add,
    fieldAddrA, fieldOf, ti100, ti98, ti178, ti9, ti86, ti88, ti175, addOff, vals, pvals, ofVal, ofScal, lenA, indexAddrA, hc, hi, loadA, readAt, cut, TI.ofCells, TK.agg, hcut, ht, h30', paste, AV.cells, AV.one, inC,
    evalDrawn, evalTrace, evalOps, ownAlloc, hplan, sameRead, callA, callWith, hov, hext, valueA, fillA, zerosA, appendA, sliceParts, addedParts, hcs, htop, hbig, hbig']
  rw [hw2]
  refine ⟨_, _, ⟨rfl, rfl⟩, by simp [T.get_set], rfl, rfl, rfl, ?_, ?_, ?_, ?_, ?_, ?_, ?_⟩ <;> simp [T.get_set, h3, h10, h11, hl, h2, hl2, outC]

theorem ev_end {t : Int} {l : List Raw} {k : Nat} {S : AV} {fr : Frm} {σ : Sig} (h : EvInv t l l.length S fr) :
    ∃ fr', exec E1 (k + 41) (.loop (loopOf Tryz.f42)) fr σ = some (.exit 0, fr', σ) ∧ EvInv t l l.length S fr' := by
  obtain ⟨hfid, hfn, hnt, h3, h10, h11, h12, hl2, h2, hl⟩ := h
  simp only [loopOf, bodyOf, Tryz.f42, loop1, Option.getD, exec_loop, exec_seq, exec_cond, exec_block, exec_region, exec_skip, exec_exit, evalOps_cons, evalOps_nil]
  simp [stepOp, Frm.inSlots, wantedA, evalOp, clsOf, evalP, evalL, Frm.val, Frm.put, hfid, hfn, hnt, h12, h11, T.get_set, binA_lss]
  refine ⟨rfl, rfl, rfl, ?_, ?_, ?_, ?_, ?_, ?_, ?_⟩ <;> simp [T.get_set, h3, h10, h11, h12, hl, h2, hl2]

/-- What Event has gathered ahead of round i. -/
def gath (l : List Raw) (i : Nat) : AV := .slice (.opn 0 4) (min i 30) (outsC (l.take (min i 30)))

theorem outsC_append (a b : List Raw) : outsC (a ++ b) = outsC a ++ outsC b := by simp [outsC]

theorem gath_first (l : List Raw) (h : 0 < l.length) : gath l 1 = .slice (.opn 0 4) 1 (outC l[0]) := by
  cases l with
  | nil => simp at h
  | cons r l => simp [gath, outsC]

theorem ev_loop {t : Int} {l : List Raw} (hlen : l.length < 2 ^ 63) : ∀ (d i k : Nat) (fr : Frm) (σ : Sig), i + d = l.length → 1 ≤ i → EvInv t l i (gath l i) fr → σ.tops.get 0 = some (min i 30 * 4) →
    ∃ fr' σ', exec E1 (k + 41 + d) (.loop (loopOf Tryz.f42)) fr σ = some (.exit 0, fr', σ') ∧ EvInv t l l.length (gath l l.length) fr' := by
  intro d
  induction d with
  | zero =>
    intro i k fr σ hi h1 h ht
    have : i = l.length := by omega
    subst this
    obtain ⟨fr', e, inv⟩ := ev_end (k := k) (σ := σ) h
    exact ⟨fr', σ, e, inv⟩
  | succ d ih =>
    intro i k fr σ hi h1 h ht
    have hil : i < l.length := by omega
    have e : k + 41 + (d + 1) = (k + d + 1 + 40) + 1 := by omega
    have e' : k + d + 1 + 40 = k + 41 + d := by omega
    by_cases h30 : i < 30
    · have hm : min i 30 = i := by omega
      have hm' : min (i + 1) 30 = i + 1 := by omega
      have hg : gath l i = .slice (.opn 0 4) i (outsC (l.take i)) := by simp only [gath, hm]
      have hg' : gath l (i + 1) = .slice (.opn 0 4) (i + 1) (outsC (l.take i) ++ outC l[i]) := by
        simp only [gath, hm']
        rw [List.take_succ_eq_append_getElem hil, outsC_append]
        simp [outsC]
      rw [hg] at h
      rw [hm] at ht
      obtain ⟨fr1, σ1, a1, a2, a3⟩ := ev_step_next (k := k + d + 1) (σ := σ) h hil h30 (by omega) (by rw [outsC_length, List.length_take]; omega) ht
      rw [← hg'] at a3
      obtain ⟨fr2, σ2, a4, a5⟩ := ih (i + 1) k fr1 σ1 (by omega) (by omega) a3 (by rw [hm']; exact a2)
      refine ⟨fr2, σ2, ?_, a5⟩
      rw [e, exec_loop, a1]
      simp only [e']
      exact a4
    · have hm : min i 30 = min (i + 1) 30 := by omega
      have hg : gath l i = gath l (i + 1) := by simp only [gath, hm]
      rw [hg] at h
      rw [hm] at ht
      obtain ⟨fr1, a1, a3⟩ := ev_step_late (k := k + d + 1) (σ := σ) h hil (by omega) hlen
      obtain ⟨fr2, σ2, a4, a5⟩ := ih (i + 1) k fr1 σ (by omega) (by omega) a3 ht
      refine ⟨fr2, σ2, ?_, a5⟩
      rw [e, exec_loop, a1]
      simp only [e']
      exact a4

/-- The whole loop, from its begin on. -/
theorem ev_loop_all {t : Int} {l : List Raw} (hlen : l.length < 2 ^ 63) (k : Nat) : ∃ (g : Frm → Frm) (s : Frm → Sig), ∀ fr, EvInv t l 0 .nils fr →
    exec E1 (k + 41 + l.length) (.loop (loopOf Tryz.f42)) fr { nfr := 1 } = some (.exit 0, g fr, s fr) ∧ EvInv t l l.length (if l.length = 0 then .nils else gath l l.length) (g fr) := by
  have main : ∀ fr, EvInv t l 0 .nils fr → ∃ fr' σ', exec E1 (k + 41 + l.length) (.loop (loopOf Tryz.f42)) fr { nfr := 1 } = some (.exit 0, fr', σ') ∧ EvInv t l l.length (if l.length = 0 then .nils else gath l l.length) fr' := by
    intro fr h
    by_cases h0 : l.length = 0
    · have e0 : k + 41 + l.length = k + 41 := by omega
      rw [e0, if_pos h0]
      have h' : EvInv t l l.length .nils fr := by rw [h0]; exact h
      obtain ⟨fr', e, inv⟩ := ev_end (k := k) (σ := { nfr := 1 }) h'
      exact ⟨fr', _, e, inv⟩
    · rw [if_neg h0]
      have hpos : 0 < l.length := by omega
      have e : k + 41 + l.length = (k + l.length + 40) + 1 := by omega
      have e' : k + l.length + 40 = k + 41 + (l.length - 1) := by omega
      obtain ⟨fr1, σ1, a1, a2, a3⟩ := ev_step_first (k := k + l.length) (σ := { nfr := 1 }) h hpos (by omega)
      have hg := gath_first l hpos
      have a3' : EvInv t l 1 (gath l 1) fr1 := by rw [hg]; exact a3
      obtain ⟨fr2, σ2, a4, a5⟩ := ev_loop hlen (l.length - 1) 1 k fr1 σ1 (by omega) (by omega) a3' a2
      refine ⟨fr2, σ2, ?_, a5⟩
      rw [e, exec_loop, a1]
      simp only [e']
      exact a4
  refine ⟨fun fr => endOf (exec E1 (k + 41 + l.length) (.loop (loopOf Tryz.f42)) fr { nfr := 1 }) fr, fun fr => ((exec E1 (k + 41 + l.length) (.loop (loopOf Tryz.f42)) fr { nfr := 1 }).map (·.2.2)).getD {}, fun fr h => ?_⟩
  obtain ⟨fr', σ', e, inv⟩ := main fr h
  simp only [e, endOf, Option.map_some, Option.getD_some]
  exact ⟨trivial, inv⟩

theorem evInv_iff {t : Int} {l : List Raw} {i : Nat} {S : AV} {fr : Frm} : EvInv t l i S fr ↔ fr.fid = 0 ∧ fr.fn = 42 ∧ fr.nt = 28 ∧ fr.tmps.get 3 = some (.loc 0 3 0 0) ∧ fr.tmps.get 10 = some (.slice .no l.length (insC l)) ∧
    fr.tmps.get 11 = some (.int .i64 l.length) ∧ fr.tmps.get 12 = some (.int .i64 i) ∧ fr.locs.get 2 = some (0, .cells [.int .u8 0, .nils]) ∧ fr.tmps.get 2 = some (.loc 0 2 0 0) ∧ fr.locs.get 3 = some (0, .cells [.int .u8 t, S]) :=
  ⟨fun h => ⟨h.fid, h.fn, h.nt, h.h3, h.h10, h.h11, h.h12, h.hl2, h.h2, h.hl⟩, fun ⟨a, b, c, d, e, f, g, h, i, j⟩ => ⟨a, b, c, d, e, f, g, h, i, j⟩⟩

theorem one_int (k : IntKind) (n : Int) : (AV.int k n).one = true := rfl
theorem one_nils : AV.nils.one = true := rfl
theorem one_slice (p : Perm) (n : Nat) (cs : List AV) : (AV.slice p n cs).one = true := rfl

theorem event_run {t : Int} {l : List Raw} (hlen : l.length < 2 ^ 63) :
    ∃ σ', call E1 (l.length + 70) 42 [.agg [.int .u8 t, .slice .no l.length (insC l)]] {} = some (.agg [.int .u8 t, if l.length = 0 then .nils else gath l l.length], σ') := by
  have hov : E1.ov 42 = none := rfl
  have hfn : E1.fn 42 = some Tryz.f42 := rfl
  have hesc1 : E1.esc 42 1 = false := rfl
  have hesc2 : E1.esc 42 2 = false := rfl
  have hesc3 : E1.esc 42 3 = false := rfl
  have hS : ∀ x, (if l.length = 0 then AV.nils else gath l x).one = true := by intro x; split <;> rfl
  generalize hG : (if l.length = 0 then AV.nils else gath l l.length) = S at *
  have hS' : S.one = true := by rw [← hG]; exact hS _
  obtain ⟨g, s, key⟩ := ev_loop_all (t := t) hlen 24
  obtain ⟨B, hB⟩ : ∃ B, B = loopOf Tryz.f42 := ⟨_, rfl⟩
  rw [← hB, show 24 + 41 + l.length = l.length + 65 by omega, hG] at key
  simp only [loopOf, bodyOf, Tryz.f42, loop1, Option.getD] at hB
  simp only [call, callWith, hov, hfn, Tryz.f42]
  rw [← hB]
  clear hB
  have k0 := fun fr h => (key fr h).1
  have kfid := fun fr h => (key fr h).2.fid
  have kfn := fun fr h => (key fr h).2.fn
  have k3 := fun fr h => (key fr h).2.h3
  have k2 := fun fr h => (key fr h).2.h2
  have kl := fun fr h => (key fr h).2.hl
  have kl2 := fun fr h => (key fr h).2.hl2
  have kn := fun fr h => (key fr h).2.nt
  clear key
  simp only [evInv_iff] at k0 k3 kn kfid k2 kl kl2 kfn
  simp only [exec_seq, exec_cond, exec_block, exec_region, exec_skip, exec_exit, exec_ret, evalOps_cons, evalOps_nil]
  simp [stepOp, Frm.inSlots, wantedA, evalOp, clsOf, evalP, evalL, evalE, allocA, localA, storeA, nextGen, hesc1, hesc2, hesc3, argTmps, AV.cells, one_int, one_nils, Frm.val, Frm.put, T.get_set, T.get_leaf, binA_lss, binA_gtr,
    fieldAddrA, fieldOf, ti100, ti98, ti178, ti9, ti5, ti86, ti88, ti175, addOff, vals, pvals, ofVal, ofScal, lenA, loadA, readAt, cut, paste, TI.ofCells, TK.agg, fillA, structPlace, k0, k3, kn, kfid, kfn, k2, kl, kl2, resultsA, resultA, oneOf, one_slice, hS']
end Go.Ax.Seat
