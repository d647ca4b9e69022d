/-
  AE at this seat: ref5.Great.
-/
import Derived.Test.YtjpcmbamjignnaaGreatDoorAxEv
import Derived.Test.YtjpcmbamjignnaaGreatDoorAxSym
namespace Go.Ax.Seat
open Go Go.Proofs
set_option maxHeartbeats 2000000
set_option maxRecDepth 20000
theorem ti3 : E1.ti 3 = some { size := 1, bytes := 8, zero := [.int .i64 0], kind := .int .i64 } := rfl
theorem ti5 : E1.ti 5 = some { size := 1, bytes := 1, zero := [.int .u8 0], kind := .int .u8 } := rfl
theorem ti98 : E1.ti 98 = some { size := 1, bytes := 24, zero := [.nils], kind := .slice 178 } := rfl
theorem ti178 : E1.ti 178 = some { size := 4, bytes := 40, zero := [.int .u8 0, .int .i64 0, .float .f64 0, .str ⟨#[]⟩], kind := .struct [(0, 5), (1, 2), (2, 176), (3, 9)] } := rfl
theorem ti9 : E1.ti 9 = some { size := 1, bytes := 16, zero := [.str ⟨#[]⟩], kind := .str } := rfl
theorem ti100 : E1.ti 100 = some { size := 2, bytes := 32, zero := [.int .u8 0, .nils], kind := .struct [(0, 5), (1, 98)] } := rfl

/-- Where Great's loop is. -/
structure GreatInv (t : Int) (len n i : Nat) (cells : List AV) (fr : Frm) : Prop where
  fid : fr.fid = 0
  fn : fr.fn = 93
  nt : fr.nt = 29
  h1 : fr.tmps.get 1 = some (.loc 0 1 0 0)
  h3 : fr.tmps.get 3 = some (.int .i64 n)
  h12 : fr.tmps.get 12 = some (.int .i64 len)
  h13 : fr.tmps.get 13 = some (.int .i64 i)
  hl : fr.locs.get 1 = some (0, .cells [.int .u8 t, .slice .no len cells])

theorem greatInv_iff {t : Int} {len n i : Nat} {cells : List AV} {fr : Frm} : GreatInv t len n i cells fr ↔ fr.fid = 0 ∧ fr.fn = 93 ∧ fr.nt = 29 ∧ fr.tmps.get 1 = some (.loc 0 1 0 0) ∧ fr.tmps.get 3 = some (.int .i64 n) ∧
    fr.tmps.get 12 = some (.int .i64 len) ∧ fr.tmps.get 13 = some (.int .i64 i) ∧ fr.locs.get 1 = some (0, .cells [.int .u8 t, .slice .no len cells]) :=
  ⟨fun h => ⟨h.fid, h.fn, h.nt, h.h1, h.h3, h.h12, h.h13, h.hl⟩, fun ⟨a, b, c, d, e, f, g, h⟩ => ⟨a, b, c, d, e, f, g, h⟩⟩

theorem take_one {cs : List AV} {off : Nat} {v : AV} (h : cs[off]? = some v) : List.take 1 (List.drop off cs) = [v] := by
  have := cut_one h
  unfold cut at this
  split at this
  · simpa using this
  · simp at this

theorem great_step {k i n len : Nat} {t : Int} {cells : List AV} {s : ByteArray} {fr : Frm} {σ : Sig} (h : GreatInv t len n i cells fr) (hi : i < len) (hc : cells.length = len * 4) (hs : cells[i * 4 + 3]? = some (.str s)) (hn : n < 2 ^ 32) (hlen : len < 2 ^ 32) :
    ∃ fr', exec E1 (k + 40) (loopOf Tryz.f93) fr σ = some (.normal, fr', σ) ∧ GreatInv t len (n + min s.size 3000) (i + 1) cells fr' := by
  obtain ⟨hfid, hfn, hnt, h1, h3, h12, h13, hl⟩ := h
  have hcut : i * 4 + 3 + 1 ≤ len * 4 := by omega
  have hmin : (if (3000 : Int) < (s.size : Int) then (3000 : Int) else (s.size : Int)) = ((min s.size 3000 : Nat) : Int) := by split <;> omega
  have hw1 : IntKind.i64.wrap ((n : Int) + ((min s.size 3000 : Nat) : Int)) = ((n + min s.size 3000 : Nat) : Int) := by
    rw [wrap_i64 (by omega) (by omega)]; push_cast; rfl
  have hw2 : IntKind.i64.wrap ((i : Int) + 1) = ((i + 1 : Nat) : Int) := by
    rw [wrap_i64 (by omega) (by omega)]; push_cast; rfl
  simp only [loopOf, bodyOf, Tryz.f93, loop1, Option.getD, exec_seq, exec_cond, exec_block, exec_region, exec_skip, exec_exit, evalOps_cons, evalOps_nil]
  simp [stepOp, Frm.inSlots, wantedA, evalOp, clsOf, evalP, evalL, Frm.val, Frm.put, hfid, hfn, hnt, h1, h3, h12, h13, T.get_set, hl, binA_lss, binA_add,
    fieldAddrA, fieldOf, ti100, ti98, ti178, ti9, ti5, ti3, addOff, vals, ofVal, ofScal, lenA, indexAddrA, hc, hi, loadA, readAt, cut, TI.ofCells, TK.agg, foldA, min2A, hcut, take_one hs]
  rw [hmin, hw1, hw2]
  refine ⟨rfl, rfl, rfl, ?_, ?_, ?_, ?_, ?_⟩ <;> simp [T.get_set, h1, h12, hl]

/-- Behind Great's loop. -/
theorem great_loop {t : Int} {len : Nat} {cells : List AV} {l : List ByteArray} {σ : Sig} (hc : cells.length = len * 4) (hl : l.length = len) (hs : ∀ (i : Nat) (h : i < l.length), cells[i * 4 + 3]? = some (.str l[i])) (hlen : len ≤ 40) :
    ∀ (d i n k : Nat) (fr : Frm), i + d = len → GreatInv t len n i cells fr → n ≤ len + i * 3000 →
      ∃ fr', exec E1 (k + 41 + d) (.loop (loopOf Tryz.f93)) fr σ = some (.exit 0, fr', σ) ∧ GreatInv t len (n + ((l.drop i).map fun s => min s.size 3000).sum) len cells fr' := by
  intro d
  induction d with
  | zero =>
    intro i n k fr hi h hn
    have : i = len := by omega
    subst this
    have hdrop : l.drop i = [] := by simp [hl]
    rw [hdrop]
    obtain ⟨hfid, hfn, hnt, h1, h3, h12, h13, hll⟩ := h
    simp only [loopOf, bodyOf, Tryz.f93, loop1, Option.getD, Nat.add_zero, exec_loop, exec_seq, exec_cond, exec_block, exec_region, exec_skip, exec_exit, evalOps_cons, evalOps_nil]
    simp [stepOp, Frm.inSlots, wantedA, evalOp, clsOf, evalP, evalL, Frm.val, Frm.put, hfid, hfn, hnt, h12, h13, T.get_set, binA_lss]
    refine ⟨rfl, rfl, rfl, ?_, ?_, ?_, ?_, ?_⟩ <;> simp [T.get_set, h1, h3, h12, h13, hll]
  | succ d ih =>
    intro i n k fr hi h hn
    have hil : i < len := by omega
    obtain ⟨fr1, h1, h2⟩ := great_step (k := k + d + 1) (σ := σ) h hil hc (hs i (by omega)) (by omega) (by omega)
    obtain ⟨fr2, h3, h4⟩ := ih (i + 1) _ k fr1 (by omega) h2 (by omega)
    refine ⟨fr2, ?_, ?_⟩
    · have e : k + 41 + (d + 1) = (k + d + 1 + 40) + 1 := by omega
      rw [e, exec_loop, h1]
      have : k + d + 1 + 40 = k + 41 + d := by omega
      simp only [this]
      exact h3
    · rw [List.drop_eq_getElem_cons (by omega)]
      simp only [List.map_cons, List.sum_cons, ← Nat.add_assoc]
      exact h4

/-- The frame that a run ends with. -/
def endOf (r : Option (AEx × Frm × Sig)) (fr : Frm) : Frm := match r with
  | some (_, fr, _) => fr
  | none => fr

theorem great_loop_eq {t : Int} {len : Nat} {cells : List AV} {l : List ByteArray} {σ : Sig} (hc : cells.length = len * 4) (hl : l.length = len) (hs : ∀ (i : Nat) (h : i < l.length), cells[i * 4 + 3]? = some (.str l[i])) (hlen : len ≤ 40)
    (k : Nat) : ∃ g : Frm → Frm, ∀ fr, GreatInv t len len 0 cells fr → exec E1 (k + 41 + len) (.loop (loopOf Tryz.f93)) fr σ = some (.exit 0, g fr, σ) ∧
    GreatInv t len (len + (l.map fun s => min s.size 3000).sum) len cells (g fr) := by
  refine ⟨fun fr => endOf (exec E1 (k + 41 + len) (.loop (loopOf Tryz.f93)) fr σ) fr, fun fr h => ?_⟩
  obtain ⟨fr', e, inv⟩ := great_loop (σ := σ) hc hl hs hlen len 0 len k fr (by omega) h (by omega)
  simp only [List.drop_zero] at inv
  simp only [e, endOf]
  exact ⟨trivial, inv⟩

theorem great_run {t : Int} {len : Nat} {cells : List AV} {l : List ByteArray} (hc : cells.length = len * 4) (hl : l.length = len) (hs : ∀ (i : Nat) (h : i < l.length), cells[i * 4 + 3]? = some (.str l[i])) (hlen : len ≤ 40) :
    ∃ σ', call E1 (len + 70) 93 [.agg [.int .u8 t, .slice .no len cells]] {} = some (.bool (decide ((3000 : Int) < ((len + (l.map fun s => min s.size 3000).sum : Nat) : Int))), σ') := by
  have hov : E1.ov 93 = none := rfl
  have hfn : E1.fn 93 = some Tryz.f93 := rfl
  have hesc : E1.esc 93 1 = false := rfl
  have hlen' : ¬ (40 : Int) < (len : Int) := by omega
  obtain ⟨g, key⟩ := great_loop_eq (t := t) (σ := { nfr := 1 }) hc hl hs hlen 23
  obtain ⟨B, hB⟩ : ∃ B, B = loopOf Tryz.f93 := ⟨_, rfl⟩
  rw [← hB, show 23 + 41 + len = len + 64 by omega] at key
  simp only [loopOf, bodyOf, Tryz.f93, loop1, Option.getD] at hB
  simp only [call, callWith, hov, hfn, Tryz.f93]
  rw [← hB]
  clear hB
  have k0 := fun fr h => (key fr h).1
  have k3 := fun fr h => (key fr h).2.h3
  have kn := fun fr h => (key fr h).2.nt
  clear key
  simp only [greatInv_iff] at k0 k3 kn
  simp only [exec_seq, exec_cond, exec_block, exec_region, exec_skip, exec_exit, exec_ret, evalOps_cons, evalOps_nil]
  simp [stepOp, Frm.inSlots, wantedA, evalOp, clsOf, evalP, evalL, evalE, allocA, localA, nextGen, hesc, argTmps, AV.cells, Frm.val, Frm.put, T.get_set, T.get_leaf, binA_lss, binA_gtr,
    fieldAddrA, fieldOf, ti100, ti98, ti178, ti9, addOff, vals, ofVal, ofScal, lenA, hc, loadA, readAt, cut, TI.ofCells, TK.agg, hlen', k0, k3, kn, resultsA, resultA, oneOf]
end Go.Ax.Seat
