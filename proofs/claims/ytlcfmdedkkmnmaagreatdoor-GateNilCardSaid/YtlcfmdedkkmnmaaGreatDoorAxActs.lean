/-
  AE: operations that write or make memory.
-/
import Derived.Test.YtlcfmdedkkmnmaaGreatDoorAxMem
namespace Go.Ax

/-- What an operation leaves. -/
structure OpOut (E : Env) (fid : Nat) (dst : Option Tmp) (Γ : Gh) (w : World) (M M' : Mem) (v : AV) (cv : Value) (Γ' : Gh) (w' : World) : Prop where
  ext : Ext fid Γ w Γ' w'
  repS : RepS E Γ' M'.sig w'
  repL : RepL fid Γ' M'.locs w'
  val : VRel Γ' w' v cv
  locs : ∀ t g, dst ≠ some t → Γ'.loc fid t g = Γ.loc fid t g
  keep : ∀ t, dst ≠ some t → (∀ g o, M.locs.get t = some (g, o) → Γ.loc fid t g = none) → M'.locs.get t = M.locs.get t
  nfr : M.sig.nfr ≤ M'.sig.nfr

section
variable {P : Program} {E : Env} {Γ : Gh} {w : World} {fid : Nat} {dst : Option Tmp} {M : Mem}

theorem OpOut.still {v : AV} {cv : Value} (hS : RepS E Γ M.sig w) (hL : RepL fid Γ M.locs w) (hv : VRel Γ w v cv) : OpOut E fid dst Γ w M M v cv Γ w :=
  ⟨.refl _ _ _, hS, hL, hv, fun _ _ _ => rfl, fun _ _ _ => rfl, Nat.le_refl _⟩

/-- What a computation comes to, with what it leaves. -/
def ActOK (P : Program) (E : Env) (fid : Nat) (dst : Option Tmp) (s : Sem Value) (Γ : Gh) (w : World) (M M' : Mem) (v : AV) : Prop :=
  ∃ cv Γ' w', s.run P w = .ok cv w' ∧ OpOut E fid dst Γ w M M' v cv Γ' w'

theorem ActOK.of_sem {s : Sem Value} {v : AV} (h : SemOK P s Γ w v) (hS : RepS E Γ M.sig w) (hL : RepL fid Γ M.locs w) : ActOK P E fid dst s Γ w M M v :=
  let ⟨cv, h1, h2⟩ := h
  ⟨cv, Γ, w, h1, .still hS hL h2⟩

theorem grew_alloc (w : World) (ob : Obj) : Grew w (w.alloc ob) ob := ⟨rfl, rfl, rfl, rfl⟩

/-- A new row of values, never written again. -/
theorem OpOut.newRow {w' : World} {arr : Array Value} {e : TypeId} {frz : Nat × Nat} (hg : Grew w w' (.cells arr e frz)) (hS : RepS E Γ M.sig w) (hL : RepL fid Γ M.locs w) {cells : List AV} (p : Perm) (len cap : Nat)
    (hr : VsRel Γ w cells (arr.toList.take cells.length)) (hlen : cells.length ≤ arr.size) (hcap : len ≤ cap) (hp : p = .no ∨ p = .exact ∧ cap = len) :
    OpOut E fid dst Γ w M M (.slice p len cells) (.slice (some ⟨w.heap.size, 0, none⟩) len cap) (Γ.setKind w.heap.size (.pure cells.length none)) w' := by
  obtain ⟨hx, hS'⟩ := hg.pure (fid := fid) hS cells.length
  refine ⟨hx, hS', hg.repL hL hx (fun _ _ => rfl), ?_, fun _ _ _ => rfl, fun _ _ _ => rfl, Nat.le_refl _⟩
  have hr' := hr.mono hx
  refine .slice p len cells w.heap.size 0 cap (fun i => arr.getD i undef) hcap (fun i hi => ?_) (fun i hi => ?_) (fun _ => ?_) ?_
  · have : i < arr.size := by omega
    simp [World.cell?, hg.get_new, Array.getD, this]
  · have h1 : i < (arr.toList.take cells.length).length := by simp; omega
    have := hr'.get i hi h1
    have h2 : i < arr.size := by omega
    simpa [Array.getD, h2] using this
  · exact .inr ⟨cells.length, none, by simp [Gh.setKind], by omega⟩
  · rcases hp with rfl | ⟨rfl, rfl⟩
    · trivial
    · rfl

theorem buildSlice_ok (hE : EnvOK P E) {t : TypeId} {len : Nat} {ps : List (Nat × AV)} {qs : Array (Nat × Value)} {e : TypeId} {ti ei : TI} {cs : List AV}
    (hti : E.ti t = some ti) (hk : ti.kind = .slice e) (hei : E.ti e = some ei) (hsm : ¬ len * ei.size > 2 ^ 24) (hf : fillA (fun i => some (i * ei.size, ei.size)) (zerosA ei.zero len) ps = some cs)
    (hr : PsRel Γ w ps qs.toList) (hS : RepS E Γ M.sig w) (hL : RepL fid Γ M.locs w) : ActOK P E fid dst (Instr.buildSlice t len qs) Γ w M M (.slice .exact len cs) := by
  obtain ⟨d, hd, hkd, _⟩ := (hE.ti t ti hti).underlying
  simp only [hk, KindOK] at hkd
  subst hkd
  have hT := hE.ti e ei hei
  obtain ⟨z, hz1, hz2, hz3, _⟩ := hT.zero (P := P) (Γ := Γ) (w := w)
  -- the row of zeros
  have hzero : ∃ za : Array Value, (len * ei.size = 0 → za = #[]) ∧ (len * ei.size ≠ 0 → za = z.cells) ∧
      VsRel Γ w (zerosA ei.zero len) ((Array.range (len * ei.size)).map (fun i => za[i % za.size]!)).toList := by
    by_cases h0 : len * ei.size = 0
    · refine ⟨#[], fun _ => rfl, fun h => absurd h0 h, ?_⟩
      have : zerosA ei.zero len = [] := List.eq_nil_of_length_eq_zero (by rw [zerosA_length, hT.zlen, h0])
      rw [this, h0, Array.range_zero']; simp only [List.map_toArray, List.map_nil]; exact .nil
    · refine ⟨z.cells, fun h => absurd h h0, fun _ => rfl, ?_⟩
      have := zeros_rel hz2 len (by rw [hz3]; exact h0)
      have e : len * z.cells.size = len * ei.size := by rw [hz3]
      rw [e] at this
      exact this
  obtain ⟨za, hza0, hza1, hzr⟩ := hzero
  obtain ⟨arr, ha1, ha2⟩ := fill_ok (Γ := Γ) (w := w) (place := fun i => some (i * ei.size, ei.size)) (fun _ _ h => h) hf hr hzr
  have hlen := ha2.length
  refine ⟨_, _, w.alloc (.cells arr e), ?_, OpOut.newRow (grew_alloc w _) hS hL .exact len len (cells := cs) (by rw [List.take_of_length_le (by omega)]; exact ha2) (by simp at hlen; omega) (Nat.le_refl _) (.inr ⟨rfl, rfl⟩)⟩
  by_cases h0 : len * ei.size = 0
  · have e := hza0 h0
    subst e
    simp only [Instr.buildSlice, Sem.run_bind, hd, Result.andThen_ok, hT.size, if_neg hsm, if_pos h0, Sem.run_pure, ha1]
    rfl
  · have e := hza1 h0
    subst e
    simp only [Instr.buildSlice, Sem.run_bind, hd, Result.andThen_ok, hT.size, if_neg hsm, if_neg h0, hz1, Sem.run_pure, ha1]
    rfl

theorem grew_drew (w : World) (ob : Obj) : Grew w (w.drew.alloc ob) ob := ⟨rfl, rfl, rfl, rfl⟩

theorem modify_push {α : Type} (xs : Array α) (x : α) (f : α → α) : (xs.push x).modify xs.size f = xs.push (f x) := by
  apply Array.ext_getElem?
  intro i
  rw [Array.getElem?_modify]
  by_cases h : i = xs.size
  · subst h; simp
  · have h' : ¬ xs.size = i := fun e => h e.symm
    simp only [h', if_false, Array.getElem?_push, h]

theorem grew_freeze (w : World) (arr : Array Value) (e : TypeId) : Grew w ((w.drew.alloc (.cells arr e)).freeze ⟨w.heap.size, arr.size, none⟩ 1) (.cells arr e (arr.size, arr.size + 1)) := by
  refine ⟨?_, rfl, rfl, rfl⟩
  simp only [World.freeze, if_neg (by decide : ¬ (1 : Nat) = 0)]
  exact modify_push w.heap _ _

theorem toBytes_ok (hE : EnvOK P E) {s d : TypeId} {b : ByteArray} {v : AV} (h : convA E s d (.str b) = some v) (hne : ¬ ∃ b', v = .str b') (hS : RepS E Γ M.sig w) (hL : RepL fid Γ M.locs w) :
    ActOK P E fid dst (convert s d (.string b)) Γ w M M v := by
  unfold convA at h
  split at h
  · rename_i si di hs hd
    obtain ⟨ds, hds, hks, us⟩ := (hE.ti s si hs).underlying
    obtain ⟨dd, hdd, hkd, ud⟩ := (hE.ti d di hd).underlying
    split at h
    · rename_i he; simp at he
    · rename_i he
      simp only [Option.some.injEq] at h
      exact absurd ⟨_, h.symm⟩ hne
    · rename_i e b' hkind he
      simp only [AV.str.injEq] at he
      subst he
      simp only [hkind, KindOK] at hkd
      subst hkd
      split at h
      · rename_i ei hei
        obtain ⟨de, hde, hke, _⟩ := (hE.ti e ei hei).underlying
        split at h
        · rename_i hk8
          simp only [Option.some.injEq] at h
          subst h
          simp only [hk8, KindOK] at hke
          subst hke
          obtain ⟨cap, hcapd⟩ : ∃ c, c = (Question.appendCap b.size 0 e).cut (w.tape w.drawn (.appendCap b.size 0 e)) := ⟨_, rfl⟩
          have hcap : b.size ≤ cap := by rw [hcapd]; simp [Question.cut]
          obtain ⟨arr, harrd⟩ : ∃ a : Array Value, a = b.data.map (fun x => Value.int .u8 x.toNat) ++ Array.replicate (cap - b.size) (.int .u8 0) := ⟨_, rfl⟩
          have hsz : b.data.size = b.size := rfl
          have harr : arr.size = cap := by rw [harrd]; simp; omega
          have hshape : (w.drew.alloc (.cells arr e)).shape? w.heap.size = some (e, arr.size) := by
            have := (grew_drew w (.cells arr e)).get_new
            simp only [World.shape?, this]
          have elen : (byteCells b).length = b.size := by simp [byteCells]
          refine ⟨.slice (some ⟨w.heap.size, 0, none⟩) b.size cap, _, _, ?_, OpOut.newRow (grew_freeze w arr e) hS hL .no b.size cap (cells := byteCells b) ?_ (by rw [elen]; omega) hcap (.inl rfl)⟩
          · have hcv : (Conv.stringToBytes e b).run P w = .ok (.slice (some ⟨w.heap.size, 0, none⟩) b.size cap) ((w.drew.alloc (.cells arr e)).freeze ⟨w.heap.size, arr.size, none⟩ 1) := by
              simp only [Conv.stringToBytes, Sem.run_bind, run_choose, Question.forced, Bool.false_eq_true, if_false, Result.andThen_ok, World.drew_eq, newRow, run_newObj, World.alloc_eq, Sem.run_pure, markStringish, run_shape, ← hcapd, ← harrd, World.size_drew]
              rw [hshape]
              rfl
            simp only [convert, Sem.run_bind, hds, hdd, Result.andThen_ok]
            cases ds <;> simp only [hde, Result.andThen_ok] <;> exact hcv
          · rw [elen]
            have : arr.toList.take b.size = b.data.toList.map (fun x => Value.int .u8 x.toNat) := by
              rw [harrd]
              simp only [Array.toList_append, Array.toList_map]
              rw [List.take_append_of_le_length (by simp), List.take_of_length_le (by simp)]
            rw [this]
            simp only [byteCells]
            exact .of_get (by simp) fun i h1 h2 => by simp; exact .int _ _
        · simp at h
      · simp at h
    · rename_i he; simp at he
    · rename_i he; simp at he
    · simp at h
  · simp at h
end
end Go.Ax
