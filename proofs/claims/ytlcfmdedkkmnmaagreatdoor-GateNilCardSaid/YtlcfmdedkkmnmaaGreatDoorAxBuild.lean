/-
  AE: values made of parts; rows made of parts.
-/
import Derived.Test.YtlcfmdedkkmnmaaGreatDoorAxPure
namespace Go.Ax
section
variable {P : Program} {E : Env} {Γ : Gh} {w : World}

theorem foldl_set (off : Nat) : ∀ (vs : List Value) (k : Nat) (cs : Array Value), off + k + vs.length ≤ cs.size →
    ((vs.zipIdx k).foldl (fun cs (x : Value × Nat) => cs.setIfInBounds (off + x.2) x.1) cs).toList = cs.toList.take (off + k) ++ vs ++ cs.toList.drop (off + k + vs.length)
  | [], k, cs, _ => by simp
  | v :: vs, k, cs, h => by
    simp only [List.length_cons] at h
    simp only [List.zipIdx_cons, List.foldl_cons]
    rw [foldl_set off vs (k + 1) _ (by simp; omega)]
    have hlt : off + k < cs.toList.length := by simp; omega
    have e : (cs.setIfInBounds (off + k) v).toList = cs.toList.take (off + k) ++ v :: cs.toList.drop (off + k + 1) := by
      rw [Array.toList_setIfInBounds, List.set_eq_take_append_cons_drop]
      simp []
      intro hc; simp at hlt; omega
    rw [e]
    have e1 : (cs.toList.take (off + k) ++ v :: cs.toList.drop (off + k + 1)).take (off + (k + 1)) = cs.toList.take (off + k) ++ [v] := by
      rw [List.take_append, List.take_of_length_le (by simp; omega)]
      have : off + (k + 1) - (cs.toList.take (off + k)).length = 1 := by simp at hlt ⊢; omega
      rw [this]; simp
    have e2 : (cs.toList.take (off + k) ++ v :: cs.toList.drop (off + k + 1)).drop (off + (k + 1) + vs.length) = cs.toList.drop (off + k + (vs.length + 1)) := by
      rw [List.drop_append, List.drop_of_length_le (by simp; omega)]
      have : off + (k + 1) + vs.length - (cs.toList.take (off + k)).length = vs.length + 1 := by simp at hlt ⊢; omega
      rw [this]
      simp only [List.drop_succ_cons, List.nil_append, List.drop_drop]
      congr 1; omega
    rw [e1, e2]
    simp [Nat.add_assoc]

theorem paste_rel {cs new l : List AV} {off : Nat} (h : paste cs off new = some l) {arr : List Value} {vs : List Value} (hr : VsRel Γ w cs arr) (hn : VsRel Γ w new vs) :
    off + vs.length ≤ arr.length ∧ VsRel Γ w l (arr.take off ++ vs ++ arr.drop (off + vs.length)) := by
  unfold paste at h
  split at h
  · rename_i hle
    simp only [Option.some.injEq] at h
    subst h
    rw [hr.length, hn.length]
    exact ⟨hle, ((hr.take off).append hn).append (hr.drop _)⟩
  · simp at h

/-- Parts and their places. -/
inductive PsRel (Γ : Gh) (w : World) : List (Nat × AV) → List (Nat × Value) → Prop where
  | nil : PsRel Γ w [] []
  | cons {i v c ps qs} (h : VRel Γ w v c) (r : PsRel Γ w ps qs) : PsRel Γ w ((i, v) :: ps) ((i, c) :: qs)

theorem fill_ok {placeA place : Nat → Option (Nat × Nat)} (hp : ∀ i x, placeA i = some x → place i = some x) : ∀ {ps : List (Nat × AV)} {qs : List (Nat × Value)} {cs l : List AV} {arr : Array Value},
    fillA placeA cs ps = some l → PsRel Γ w ps qs → VsRel Γ w cs arr.toList → ∃ arr', Instr.fill place arr qs = some arr' ∧ VsRel Γ w l arr'.toList
  | [], qs, cs, l, arr, h, hr, hc => by
    cases hr
    simp only [fillA, Option.some.injEq] at h
    subst h
    exact ⟨arr, rfl, hc⟩
  | (i, v) :: ps, qs, cs, l, arr, h, hr, hc => by
    cases hr with
    | cons hv hrest =>
      rename_i c qs
      simp only [fillA] at h
      split at h
      · simp at h
      · rename_i off size hpl
        split at h
        · simp at h
        · rename_i hsz
          have hsz : v.cells.length = size := by simpa using hsz
          split at h
          · rename_i cs' hcs
            have hcells := hv.cells
            obtain ⟨hle, hrel⟩ := paste_rel hcs hc hcells
            have hlen := hcells.length
            simp at hlen hle
            have hf := foldl_set off c.cells.toList 0 arr (by simp; omega)
            simp only [Nat.add_zero] at hf
            have e : c.cells.zipIdx.foldl (fun cs (x : Value × Nat) => cs.setIfInBounds (off + x.2) x.1) arr = (c.cells.toList.zipIdx 0).foldl (fun cs (x : Value × Nat) => cs.setIfInBounds (off + x.2) x.1) arr := by
              rw [← Array.foldl_toList, Array.toList_zipIdx]
            obtain ⟨arr', h1, h2⟩ := fill_ok hp h hrest (arr := (c.cells.toList.zipIdx 0).foldl (fun cs (x : Value × Nat) => cs.setIfInBounds (off + x.2) x.1) arr) (by rw [hf]; exact hrel)
            refine ⟨arr', ?_, h2⟩
            simp only [Instr.fill, hp i _ hpl]
            have c1 : ¬ (c.cells.size ≠ size || off + c.cells.size > arr.size) = true := by simp; omega
            rw [if_neg (by simpa using c1)]
            rw [← h1, ← e]
          · simp at h

theorem zerosA_length (z : List AV) : ∀ n, (zerosA z n).length = n * z.length
  | 0 => by simp [zerosA]
  | n + 1 => by simp [zerosA, zerosA_length z n, Nat.add_mul, Nat.add_comm]

theorem zerosA_get (z : List AV) (hz : 0 < z.length) : ∀ n i (h : i < (zerosA z n).length), (zerosA z n)[i] = z[i % z.length]'(Nat.mod_lt _ hz)
  | 0, i, h => by simp [zerosA] at h
  | n + 1, i, h => by
    simp only [zerosA]
    by_cases hi : i < z.length
    · rw [List.getElem_append_left hi]
      simp [Nat.mod_eq_of_lt hi]
    · have h' : i - z.length < (zerosA z n).length := by
        simp only [zerosA, List.length_append] at h; omega
      rw [List.getElem_append_right (by omega), zerosA_get z hz n _ h']
      have e : (i - z.length) % z.length = i % z.length := (Nat.mod_eq_sub_mod (by omega)).symm
      simp [e]

theorem zeros_rel {z : List AV} {za : Array Value} (h : VsRel Γ w z za.toList) (n : Nat) (hz : n * za.size ≠ 0) :
    VsRel Γ w (zerosA z n) ((Array.range (n * za.size)).map (fun i => za[i % za.size]!)).toList := by
  have hl : za.size = z.length := by have := h.length; simpa using this
  have hpos : 0 < z.length := by rcases Nat.eq_zero_or_pos z.length with e | e; · rw [hl, e] at hz; simp at hz
                                 · exact e
  refine .of_get (by simp [zerosA_length, hl]) fun i h1 h2 => ?_
  rw [zerosA_get z hpos n i h1]
  have hlt : i % z.length < za.size := by rw [hl]; exact Nat.mod_lt _ hpos
  have := h.get (i % z.length) (Nat.mod_lt _ hpos) (by simpa using hlt)
  simp only [Array.getElem_toList] at this
  simp only [Array.toList_map, List.getElem_map, Array.toList_range, List.getElem_range, hl]
  rw [getElem!_pos za (i % z.length) hlt]
  exact this

theorem structPlaces_run (hE : EnvOK P E) {fs : List (Nat × TypeId)} {fields : Array Field} (hfs : fields.toList.map (fun f => (f.offset, f.type)) = fs) (hall : ∀ x ∈ fs, ∃ ti, E.ti x.2 = some ti) :
    ∃ places : Array (Nat × Nat), (fields.mapM (fun f => (do pure (f.offset, ← sizeOf f.type) : Sem (Nat × Nat)))).run P w = .ok places w ∧ ∀ i x, structPlace E fs i = some x → places[i]? = some x := by
  subst hfs
  have key : ∀ (l : List Field), (∀ f ∈ l, ∃ ti, E.ti f.type = some ti) → ∃ ps : List (Nat × Nat), (l.mapM (fun f => (do pure (f.offset, ← sizeOf f.type) : Sem (Nat × Nat)))).run P w = .ok ps w ∧
      ∀ i x, structPlace E (l.map fun f => (f.offset, f.type)) i = some x → ps[i]? = some x := by
    intro l
    induction l with
    | nil => intro _; exact ⟨[], rfl, fun i x h => by simp [structPlace] at h⟩
    | cons f l ih =>
      intro hall
      obtain ⟨ti, hti⟩ := hall f (by simp)
      obtain ⟨ps, h1, h2⟩ := ih fun g hg => hall g (by simp [hg])
      refine ⟨(f.offset, ti.size) :: ps, ?_, fun i x h => ?_⟩
      · simp only [List.mapM_cons, Sem.run_bind, (hE.ti _ _ hti).size, Result.andThen_ok, Sem.run_pure, h1]
      · cases i with
        | zero => simpa [structPlace, hti] using h
        | succ i => simpa using h2 i x (by simpa [structPlace] using h)
  obtain ⟨ps, h1, h2⟩ := key fields.toList fun f hf => hall (f.offset, f.type) (List.mem_map.2 ⟨f, hf, rfl⟩)
  refine ⟨ps.toArray, ?_, fun i x h => by simpa using h2 i x h⟩
  rw [Array.mapM_eq_mapM_toList]
  simp only [Sem.run_map, h1, Result.andThen_ok]
end
end Go.Ax
