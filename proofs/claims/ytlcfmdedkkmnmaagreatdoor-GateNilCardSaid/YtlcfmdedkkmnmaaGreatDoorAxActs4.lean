/-
  AE: rows made; texts gone through; copying nothing.
-/
import Derived.Test.YtlcfmdedkkmnmaaGreatDoorAxActs3
import Derived.Laws.MakeOwn
namespace Go.Ax
section
variable {P : Program} {E : Env} {Γ : Gh} {w : World} {fid : Nat} {dst : Option Tmp} {M : Mem}

theorem makeSliceA_ok (hE : EnvOK P E) {t : TypeId} {l c v : AV} {M' : Mem} (h : makeSliceA E M t l c = some (v, M')) {cl cc : Value} (hl : VRel Γ w l cl) (hc : VRel Γ w c cc) (hS : RepS E Γ M.sig w) (hL : RepL fid Γ M.locs w) :
    ActOK P E fid dst (Instr.makeSlice t cl cc) Γ w M M' v := by
  unfold makeSliceA at h
  split at h
  · rename_i sz by_ ze e n m hti
    obtain ⟨d, hd, hkd, hud⟩ := (hE.ti t _ hti).underlying
    simp only [KindOK] at hkd
    subst hkd
    split at h
    · rename_i ei hei
      have hT := hE.ti e ei hei
      split at h
      · rename_i hcond
        obtain ⟨hn0, hnm, hm63, hbytes, hsz⟩ := hcond
        cases hl; cases hc
        obtain ⟨i, z, hi1, hi2, hi3, hi4, hi5, _⟩ := hT.info
        have hzr : VsRel Γ w ei.zero z.cells.toList := ofScals_rel hi5
        have hzs : z.cells.size = ei.size := by
          have := hzr.length; simp at this; rw [this]; exact hT.zlen
        have hm0 : 0 ≤ m := by omega
        obtain ⟨n', rfl⟩ := Int.eq_ofNat_of_zero_le hn0
        obtain ⟨m', rfl⟩ := Int.eq_ofNat_of_zero_le hm0
        simp only [Int.toNat_natCast] at h
        have h63 : (2 : Int) ^ 63 = 9223372036854775808 := by decide
        have h46 : (2 : Int) ^ 46 = 70368744177664 := by decide
        have hnm' : n' ≤ m' := by omega
        have hrun := run_make (P := P) w t e i z hud hi1 hi4 .i64 .i64 (n' : Int) (m' : Int) hn0 hnm (by rw [hi3]; omega) (by omega)
        simp only [Int.toNat_natCast, hi2] at hrun
        obtain ⟨arr, harr⟩ : ∃ a, a = madeCells z.cells (m' * ei.size) := ⟨_, rfl⟩
        rw [← harr] at hrun
        have harr2 : arr.size = m' * ei.size := by rw [harr]; simp [madeCells]
        have hle : n' * ei.size ≤ m' * ei.size := Nat.mul_le_mul_right _ hnm'
        have hzl : (zerosA ei.zero n').length = n' * ei.size := by rw [zerosA_length, hT.zlen]
        have hrel : VsRel Γ w (zerosA ei.zero n') (arr.toList.take (zerosA ei.zero n').length) := by
          by_cases h0 : n' * ei.size = 0
          · have : zerosA ei.zero n' = [] := List.eq_nil_of_length_eq_zero (by rw [hzl, h0])
            rw [this]; simp; exact .nil
          · have hfull := zeros_rel hzr m' (by rw [hzs]; omega)
            rw [hzs] at hfull
            have e1 : (Array.map (fun i => z.cells[i % ei.size]!) (Array.range (m' * ei.size))) = arr := by
              rw [harr]; simp only [madeCells, hzs]
            rw [e1] at hfull
            have e2 : zerosA ei.zero n' = (zerosA ei.zero m').take (n' * ei.size) := by
              apply List.ext_getElem
              · rw [List.length_take, zerosA_length, zerosA_length, hT.zlen]; omega
              · intro k h1 h2
                rw [List.getElem_take, zerosA_get _ (by rw [hT.zlen]; exact hsz), zerosA_get _ (by rw [hT.zlen]; exact hsz)]
            rw [hzl, e2]
            exact hfull.take _
        split at h
        · rename_i heq
          simp only [Option.some.injEq, Prod.mk.injEq] at h
          obtain ⟨rfl, rfl⟩ := h
          have hnm2 : n' = m' := by omega
          exact ⟨_, _, _, hrun, OpOut.newRow (grew_alloc w _) hS hL .exact n' m' hrel (by rw [hzl, harr2]; exact hle) hnm' (.inr ⟨rfl, hnm2.symm⟩)⟩
        · rename_i hne
          simp only [Option.some.injEq, Prod.mk.injEq] at h
          obtain ⟨rfl, rfl⟩ := h
          have hgw := grew_alloc w (.cells arr e)
          obtain ⟨hx, hS'⟩ := hgw.tok (fid := fid) hS M.sig.ngrp (n' * ei.size) (M.sig.ngrp + 1) (by omega) (by omega) (fun k _ => hS.tokNew M.sig.ngrp (Nat.le_refl _) k)
          refine ⟨_, _, _, hrun, hx, hS', hgw.repL hL hx (fun _ _ => rfl), ?_, fun _ _ _ => rfl, fun _ _ _ => rfl, Nat.le_refl _⟩
          have hrel' := hrel.mono hx
          refine .slice _ _ _ w.heap.size 0 m' (fun i => arr.getD i undef) hnm' (fun i hi => ?_) (fun i hi => ?_) (fun _ => ?_) ⟨hsz, hzl, by simp [Gh.addTok, hzl], e, arr.size, ?_, ?_⟩
          · have hlt : i < arr.size := by omega
            simp only [World.cell?, hgw.get_new, Nat.zero_add, Option.isSome_none, Bool.false_eq_true, if_false]
            exact get?_getD _ _ hlt
          · have hlt : i < arr.size := by omega
            have h1 : i < (arr.toList.take (zerosA ei.zero n').length).length := by simp; omega
            have := hrel'.get i hi h1
            rw [getD_lt _ _ hlt, ← Array.getElem_toList]
            simpa using this
          · exact .inr ⟨_, some M.sig.ngrp, by simp [Gh.addTok, Gh.setKind]; rfl, by rw [hzl]; omega⟩
          · simp only [World.shape?, hgw.get_new]
          · rw [harr2]; omega
      · simp at h
    · simp at h
  · simp at h

theorem range_ok (hE : EnvOK P E) {t : TypeId} {s : ByteArray} {sz by_ : Nat} {ze : List AV} (hti : E.ti t = some { size := sz, bytes := by_, zero := ze, kind := .str }) {tmp : Tmp} {v : AV} {M' : Mem} (h : localA fid M tmp (.iter s 0) = (v, M'))
    (hS : RepS E Γ M.sig w) (hL : RepL fid Γ M.locs w) (hf : fid < M.sig.nfr) : ActOK P E fid (some tmp) (Instr.range t (.string s)) Γ w M M' v := by
  obtain ⟨d, hd, hkd, _⟩ := (hE.ti t _ hti).underlying
  simp only [KindOK] at hkd
  subst hkd
  obtain ⟨Γ', hout⟩ := local_ok (E := E) (grew_alloc w (.stringIter s 0)) h ⟨rfl, rfl⟩ hS hL hf
  exact ⟨_, Γ', _, by simp [Instr.range, hd], hout⟩

theorem run_getObj_iter {b : Nat} {s : ByteArray} {p : Nat} (h : w.heap[b]? = some (.stringIter s p)) : (getObj b).run P w = .ok (.stringIter s p) w := by
  simp only [getObj, Sem.run, h]
theorem run_setObj_iter {b : Nat} {s : ByteArray} {p q : Nat} (h : w.heap[b]? = some (.stringIter s p)) :
    (setObj b (.stringIter s q)).run P w = .ok () { w with heap := w.heap.setIfInBounds b (.stringIter s q) } := by
  simp only [setObj, Sem.run, h]

theorem next_ok {t g : Nat} {s : ByteArray} {pos : Nat} {cit : Value} (hit : VRel Γ w (.loc fid t g 0) cit) (hget : M.locs.get t = some (g, .iter s pos)) (ty : TypeId) (hS : RepS E Γ M.sig w) (hL : RepL fid Γ M.locs w) :
    if pos < s.size then
      ActOK P E fid dst (Instr.next cit true ty) Γ w M { M with locs := M.locs.set t (g, .iter s (pos + (Utf8.decode s pos).2)) } (.tuple [.bool true, .int .i64 pos, .int .i32 (Utf8.decode s pos).1])
    else ActOK P E fid dst (Instr.next cit true ty) Γ w M M (.tuple [.bool false]) := by
  cases hit with
  | loc _ _ _ _ b e =>
    obtain ⟨ob, e2, r⟩ := hL.own _ _ _ b hget e
    cases ob <;> simp only [ORel] at r
    rw [r.1, r.2] at e2
    clear r
    have ho := run_getObj_iter (P := P) e2
    split
    · rename_i hlt
      have hput := setObj_put (lt_of_heap e2) (.stringIter s (pos + (Utf8.decode s pos).2)) (w := w)
      obtain ⟨hx, hS', hL'⟩ := hput.loc (fun x hx => by simp [World.shape?, e2] at hx) hS hL t g _ e hget (.iter s (pos + (Utf8.decode s pos).2)) ⟨rfl, rfl⟩
      refine ⟨.tuple #[.bool true, goInt pos, .int .i32 (Utf8.decode s pos).1], Γ, _, ?_, hx, hS', hL', vrel_tuple (.cons (.bool _) (.cons (.int _ _) (.cons (.int _ _) .nil))), fun _ _ _ => rfl, fun t' _ hnone => ?_, Nat.le_refl _⟩
      · simp only [Instr.next, Sem.run_bind, ho, Result.andThen_ok, hlt, if_true, run_setObj_iter e2]
        rfl
      · refine T.get_set_ne _ _ fun ht => ?_
        subst ht
        rw [hnone _ _ hget] at e
        simp at e
    · rename_i hlt
      refine ⟨.tuple #[.bool false], Γ, w, ?_, .still hS hL (vrel_tuple (.cons (.bool _) .nil))⟩
      simp only [Instr.next, Sem.run_bind, ho, Result.andThen_ok, hlt, if_false]
      rfl

theorem copy_none_ok (hE : EnvOK P E) {t e : TypeId} {sz by_ : Nat} {ze : List AV} (hti : E.ti t = some { size := sz, bytes := by_, zero := ze, kind := .slice e }) {ei : TI} (hei : E.ti e = some ei) {d s : AV} {p : Perm} {n m : Nat} {cs new : List AV}
    (hd : sliceParts d = some (p, n, cs)) (hs : addedParts true s = some (m, new)) (h0 : n = 0 ∨ m = 0) {ts : Array TypeId} (ht : ts[0]? = some t) {as : Array Value} {cd cs' : Value} (ha0 : as[0]? = some cd) (ha1 : as[1]? = some cs')
    (hrd : VRel Γ w d cd) (hrs : VRel Γ w s cs') (ty : TypeId) : SemOK P (Builtin.copy_ ts ty as) Γ w (.int .i64 0) := by
  obtain ⟨dd, hdd, hkd, _⟩ := (hE.ti t _ hti).underlying
  simp only [KindOK] at hkd
  subst hkd
  have hsz := (hE.ti e ei hei).size (P := P)
  have hmin : Nat.min m n = 0 := by rcases h0 with rfl | rfl <;> simp
  have hd' : ∃ base cap, cd = .slice base n cap := by
    rcases sliceParts_rel hd hrd with ⟨_, rfl, _, rfl, _⟩ | ⟨b, o, cap, c, _, rfl, _⟩
    · exact ⟨none, 0, rfl⟩
    · exact ⟨_, cap, rfl⟩
  obtain ⟨base, cap, rfl⟩ := hd'
  have hl : ∀ u, (Builtin.lenOf cs').run P u = .ok m u ∧ (Builtin.firstCells ei.size 0 cs').run P u = .ok #[] u := by
    intro u
    unfold addedParts at hs
    split at hs
    · simp only [Option.some.injEq, Prod.mk.injEq] at hs
      obtain ⟨rfl, rfl⟩ := hs
      cases hrs; exact ⟨rfl, rfl⟩
    · simp only [Option.some.injEq, Prod.mk.injEq] at hs
      obtain ⟨rfl, rfl⟩ := hs
      cases hrs; exact ⟨rfl, by simp [Builtin.firstCells, loadCells, loadCellsFrom]⟩
    · simp only [if_true, Option.some.injEq, Prod.mk.injEq] at hs
      obtain ⟨rfl, rfl⟩ := hs
      cases hrs
      refine ⟨rfl, ?_⟩
      simp [Builtin.firstCells]
    · simp at hs
  refine ⟨goInt 0, ?_, .int _ _⟩
  cases base <;> simp [Builtin.copy_, ht, ha0, ha1, hdd, (hl w).1, hmin, hsz, (hl w).2, storeCells]
end
end Go.Ax
