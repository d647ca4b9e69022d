/-
  AE: what a new block does to 'the world is as AE says', and what a write into an object, a variable of one's own, or behind the top of a row does.
-/
import Derived.Test.YtlcfmdedkkmnmaaGreatDoorAxRel
namespace Go.Ax

/-- The world has one block more; draws aside nothing else has turned. -/
structure Grew (w w' : World) (ob : Obj) : Prop where
  heap : w'.heap = w.heap.push ob
  os : w'.os = w.os
  output : w'.output = w.output
  tape : w'.tape = w.tape

/-- The world is the same but for the count of draws. -/
structure Same (w w' : World) : Prop where
  heap : w'.heap = w.heap
  os : w'.os = w.os
  output : w'.output = w.output
  tape : w'.tape = w.tape

theorem Same.refl (w : World) : Same w w := ⟨rfl, rfl, rfl, rfl⟩
theorem Same.drew (w : World) : Same w w.drew := ⟨rfl, rfl, rfl, rfl⟩
theorem Same.cell {w w' : World} (h : Same w w') (a : Addr) : w'.cell? a = w.cell? a := by simp only [World.cell?, h.heap]
theorem Same.shape {w w' : World} (h : Same w w') (b : Nat) : w'.shape? b = w.shape? b := by simp only [World.shape?, h.heap]

theorem Same.ext {w w' : World} (h : Same w w') (fid : Nat) (Γ : Gh) : Ext fid Γ w Γ w' :=
  ⟨by rw [h.heap]; exact Nat.le_refl _, fun _ _ h => h, fun _ _ _ _ h => h, fun _ _ _ h => h, fun _ _ _ _ => rfl, fun _ _ _ _ _ _ => by rw [h.heap], fun _ _ e => ⟨e, by rw [h.heap]⟩,
    fun _ n o e => ⟨⟨n, o, e, Nat.le_refl _⟩, fun i _ => h.cell _⟩, fun _ _ _ e => ⟨e, by rw [h.heap]⟩, fun b x e => by rw [h.shape]; exact e, h.os, h.output⟩

theorem RepS.same {E : Env} {Γ : Gh} {σ : Sig} {w w' : World} (hS : RepS E Γ σ w) (h : Same w w') : RepS E Γ σ w' :=
  have hx := h.ext 0 Γ
  { hS with
    obj := fun id b e => by
      obtain ⟨k, o, ob, e1, e2, r⟩ := hS.obj id b e
      exact ⟨k, o, ob, e1, by rw [h.heap]; exact e2, r.mono hx⟩
    loc := fun f t g b e => by rw [h.heap]; exact hS.loc f t g b e
    tok := fun g n b off e e' => by
      obtain ⟨k, arr, e1, e2⟩ := hS.tok g n b off e e'
      exact ⟨k, arr, e1, by rw [h.heap]; exact e2⟩
    fresh := fun b e => hS.fresh b (by rw [h.heap] at e; exact e)
    glob := fun g cells e => by
      obtain ⟨k, e1, c, e2, e3⟩ := hS.glob g cells e
      exact ⟨k, by rw [h.heap]; exact e1, c, fun i hi => by rw [h.cell]; exact e2 i hi, fun i hi => (e3 i hi).mono hx⟩ }

theorem RepL.same {fid : Nat} {Γ : Gh} {locs : T (Nat × AObj)} {w w' : World} (hL : RepL fid Γ locs w) (h : Same w w') : RepL fid Γ locs w' :=
  { hL with
    own := fun t g o b e e' => by
      obtain ⟨ob, e1, r⟩ := hL.own t g o b e e'
      exact ⟨ob, by rw [h.heap]; exact e1, r.mono (h.ext 0 Γ)⟩ }

def Gh.setKind (Γ : Gh) (b : Nat) (k : Kind) : Gh := { Γ with kind := fun x => if x = b then k else Γ.kind x }

section
variable {fid : Nat} {E : Env} {Γ : Gh} {σ : Sig} {w w' : World} {ob : Obj}

theorem Grew.get_old (h : Grew w w' ob) {b : Nat} (hb : b < w.heap.size) : w'.heap[b]? = w.heap[b]? := by
  rw [h.heap, Array.getElem?_push_lt hb]
  simp [hb]
theorem Grew.get_new (h : Grew w w' ob) : w'.heap[w.heap.size]? = some ob := by rw [h.heap]; simp
theorem Grew.size (h : Grew w w' ob) : w'.heap.size = w.heap.size + 1 := by rw [h.heap]; simp
theorem Grew.cell_old (h : Grew w w' ob) {a : Addr} {v : Value} (hv : w.cell? a = some v) : w'.cell? a = some v := by
  have := World.block_lt_of_cell? w a hv
  simp only [World.cell?, h.get_old this] at hv ⊢; exact hv
theorem lt_of_heap {w : World} {b : Nat} {o : Obj} (h : w.heap[b]? = some o) : b < w.heap.size := by
  obtain ⟨h, _⟩ := Array.getElem?_eq_some_iff.1 h; exact h
theorem shape?_lt {w : World} {b : Nat} {x : TypeId × Nat} (h : w.shape? b = some x) : b < w.heap.size := by
  unfold World.shape? at h
  split at h
  · rename_i e; exact lt_of_heap e
  · simp at h

/-- The ghost grows where the new block is, alone. -/
theorem Grew.ext (h : Grew w w' ob) (hS : RepS E Γ σ w) (Γ' : Gh) (hk : ∀ b, b ≠ w.heap.size → Γ'.kind b = Γ.kind b)
    (h1 : ∀ id b, Γ.obj id = some b → Γ'.obj id = some b) (h2 : ∀ f t g b, Γ.loc f t g = some b → Γ'.loc f t g = some b)
    (h3 : ∀ g n x, Γ.tok g n = some x → Γ'.tok g n = some x) (h4 : ∀ f t g, f < fid → Γ'.loc f t g = Γ.loc f t g) : Ext fid Γ w Γ' w' where
  size := by rw [h.size]; omega
  obj := h1
  loc := h2
  tok := h3
  others := h4
  keepLoc f t g b _ e := h.get_old (hS.loc f t g b e).2
  foreign b hb e := ⟨by rw [hk b (by omega)]; exact e, h.get_old hb⟩
  pure b n o e := by
    have hne : b ≠ w.heap.size := fun he => by
      have := hS.fresh b (by omega)
      rw [this] at e; simp at e
    refine ⟨⟨n, o, by rw [hk b hne]; exact e, Nat.le_refl _⟩, fun i _ => ?_⟩
    by_cases hb : b < w.heap.size
    · simp only [World.cell?, h.get_old hb]
    · have := hS.fresh b (by omega)
      rw [this] at e; simp at e
  still b n hb e := ⟨by rw [hk b (by omega)]; exact e, h.get_old hb⟩
  shape b x e := by simp only [World.shape?, h.get_old (shape?_lt e)] at e ⊢; exact e
  os := h.os
  output := h.output

/-- What was said of the blocks that were there is so behind the growing. -/
theorem Grew.repL (h : Grew w w' ob) {locs : T (Nat × AObj)} {Γ' : Gh} (hL : RepL fid Γ locs w) (hx : Ext fid Γ w Γ' w') (hl : ∀ t g, Γ'.loc fid t g = Γ.loc fid t g) : RepL fid Γ' locs w' where
  own t g o b e e' := by
    rw [hl] at e'
    obtain ⟨ob, e1, r⟩ := hL.own t g o b e e'
    exact ⟨ob, by rw [h.get_old (lt_of_heap e1)]; exact e1, r.mono hx⟩
  gen t g b e := hL.gen t g b (by rw [← hl]; exact e)

/-- A new row that is never written. -/
theorem Grew.pure (h : Grew w w' ob) (hS : RepS E Γ σ w) (n : Nat) : Ext fid Γ w (Γ.setKind w.heap.size (.pure n none)) w' ∧ RepS E (Γ.setKind w.heap.size (.pure n none)) σ w' := by
  have hx : Ext fid Γ w (Γ.setKind w.heap.size (.pure n none)) w' :=
    h.ext hS _ (fun b hb => by simp [Gh.setKind, hb]) (fun _ _ e => e) (fun _ _ _ _ e => e) (fun _ _ _ e => e) (fun _ _ _ _ => rfl)
  refine ⟨hx, ?_⟩
  have kold : ∀ b, b < w.heap.size → (Γ.setKind w.heap.size (.pure n none)).kind b = Γ.kind b := fun b hb => by simp [Gh.setKind]; omega
  exact
  { objNew := hS.objNew
    locNew := hS.locNew
    tokNew := hS.tokNew
    tokTop := hS.tokTop
    obj := fun id b e => by
      obtain ⟨k, o, ob', e1, e2, r⟩ := hS.obj id b e
      exact ⟨by rw [kold b (lt_of_heap e2)]; exact k, o, ob', e1, by rw [h.get_old (lt_of_heap e2)]; exact e2, r.mono hx⟩
    loc := fun f t g b e => by
      obtain ⟨k, hb⟩ := hS.loc f t g b e
      exact ⟨by rw [kold b hb]; exact k, by rw [h.size]; omega⟩
    tok := fun g m b off e e' => by
      obtain ⟨k, arr, e1, e2⟩ := hS.tok g m b off e e'
      exact ⟨by rw [kold b (lt_of_heap e2)]; exact k, arr, e1, by rw [h.get_old (lt_of_heap e2)]; exact e2⟩
    fresh := fun b hb => by
      rw [h.size] at hb
      have := hS.fresh b (by omega)
      have hne : b ≠ w.heap.size := by omega
      simp [Gh.setKind, hne, this]
    glob := fun g cells e => by
      obtain ⟨k, e1, c, e2, e3⟩ := hS.glob g cells e
      exact ⟨by rw [kold g e1]; exact k, by rw [h.size]; omega, c, fun i hi => h.cell_old (e2 i hi), fun i hi => (e3 i hi).mono hx⟩ }

/-- A new block of which AE knows nothing. -/
theorem Grew.foreign (h : Grew w w' ob) (hS : RepS E Γ σ w) : Ext fid Γ w Γ w' ∧ RepS E Γ σ w' := by
  have hx : Ext fid Γ w Γ w' := h.ext hS _ (fun _ _ => rfl) (fun _ _ e => e) (fun _ _ _ _ e => e) (fun _ _ _ e => e) (fun _ _ _ _ => rfl)
  refine ⟨hx, ?_⟩
  exact
  { objNew := hS.objNew
    locNew := hS.locNew
    tokNew := hS.tokNew
    tokTop := hS.tokTop
    obj := fun id b e => by
      obtain ⟨k, o, ob', e1, e2, r⟩ := hS.obj id b e
      exact ⟨k, o, ob', e1, by rw [h.get_old (lt_of_heap e2)]; exact e2, r.mono hx⟩
    loc := fun f t g b e => by
      obtain ⟨k, hb⟩ := hS.loc f t g b e
      exact ⟨k, by rw [h.size]; omega⟩
    tok := fun g m b off e e' => by
      obtain ⟨k, arr, e1, e2⟩ := hS.tok g m b off e e'
      exact ⟨k, arr, e1, by rw [h.get_old (lt_of_heap e2)]; exact e2⟩
    fresh := fun b hb => by
      rw [h.size] at hb
      exact hS.fresh b (by omega)
    glob := fun g cells e => by
      obtain ⟨k, e1, c, e2, e3⟩ := hS.glob g cells e
      exact ⟨k, by rw [h.size]; omega, c, fun i hi => h.cell_old (e2 i hi), fun i hi => (e3 i hi).mono hx⟩ }

def Gh.addObj (Γ : Gh) (b id : Nat) : Gh := { Γ.setKind b (.obj id) with obj := fun x => if x = id then some b else Γ.obj x }

/-- A new object. -/
theorem Grew.obj (h : Grew w w' ob) (hS : RepS E Γ σ w) (o : AObj) (hr : ORel Γ w o ob) :
    Ext fid Γ w (Γ.addObj w.heap.size σ.nobj) w' ∧ RepS E (Γ.addObj w.heap.size σ.nobj) { σ with objs := σ.objs.set σ.nobj o, nobj := σ.nobj + 1 } w' := by
  have hn := hS.objNew σ.nobj (Nat.le_refl _)
  have hx : Ext fid Γ w (Γ.addObj w.heap.size σ.nobj) w' :=
    h.ext hS _ (fun b hb => by simp [Gh.addObj, Gh.setKind, hb])
      (fun id b e => by
        have : id ≠ σ.nobj := fun he => by subst he; rw [hn] at e; simp at e
        simp [Gh.addObj, this, e]) (fun _ _ _ _ e => e) (fun _ _ _ e => e) (fun _ _ _ _ => rfl)
  refine ⟨hx, ?_⟩
  have kold : ∀ b, b < w.heap.size → (Γ.addObj w.heap.size σ.nobj).kind b = Γ.kind b := fun b hb => by simp [Gh.addObj, Gh.setKind]; omega
  exact
  { objNew := fun id hid => by
      have hne : id ≠ σ.nobj := by simp at hid; omega
      have := hS.objNew id (by simp at hid; omega)
      simp [Gh.addObj, hne, this]
    locNew := hS.locNew
    tokNew := hS.tokNew
    tokTop := hS.tokTop
    obj := fun id b e => by
      by_cases hid : id = σ.nobj
      · subst hid
        simp only [Gh.addObj, if_true, Option.some.injEq] at e
        subst e
        exact ⟨by simp [Gh.addObj, Gh.setKind], o, ob, T.get_set_same _ _ _, h.get_new, hr.mono hx⟩
      · have e' : Γ.obj id = some b := by simpa [Gh.addObj, hid] using e
        obtain ⟨k, o', ob', e1, e2, r⟩ := hS.obj id b e'
        exact ⟨by rw [kold b (lt_of_heap e2)]; exact k, o', ob', by rw [T.get_set_ne _ _ hid]; exact e1, by rw [h.get_old (lt_of_heap e2)]; exact e2, r.mono hx⟩
    loc := fun f t g b e => by
      obtain ⟨k, hb⟩ := hS.loc f t g b e
      exact ⟨by rw [kold b hb]; exact k, by rw [h.size]; omega⟩
    tok := fun g m b off e e' => by
      obtain ⟨k, arr, e1, e2⟩ := hS.tok g m b off e e'
      exact ⟨by rw [kold b (lt_of_heap e2)]; exact k, arr, e1, by rw [h.get_old (lt_of_heap e2)]; exact e2⟩
    fresh := fun b hb => by
      rw [h.size] at hb
      have := hS.fresh b (by omega)
      have hne : b ≠ w.heap.size := by omega
      simp [Gh.addObj, Gh.setKind, hne, this]
    glob := fun g cells e => by
      obtain ⟨k, e1, c, e2, e3⟩ := hS.glob g cells e
      exact ⟨by rw [kold g e1]; exact k, by rw [h.size]; omega, c, fun i hi => h.cell_old (e2 i hi), fun i hi => (e3 i hi).mono hx⟩ }

def Gh.addLoc (Γ : Gh) (b f t g : Nat) : Gh := { Γ.setKind b (.loc f t g) with loc := fun f' t' g' => if f' = f ∧ t' = t ∧ g' = g then some b else Γ.loc f' t' g' }

/-- A new variable of one's own: AE's memory may have it already (locs). -/
theorem Grew.loc (h : Grew w w' ob) (hS : RepS E Γ σ w) {locs : T (Nat × AObj)} (hf : fid < σ.nfr) (t g : Nat) (o : AObj) (hr : ORel Γ w o ob) (hnone : Γ.loc fid t g = none)
    (hget : locs.get t = some (g, o))
    (hown : ∀ t' g' o' b, t' ≠ t → locs.get t' = some (g', o') → Γ.loc fid t' g' = some b → ∃ ob, w.heap[b]? = some ob ∧ ORel Γ w o' ob)
    (hgen : ∀ t' g' b, Γ.loc fid t' g' = some b → ∃ g'' o', locs.get t' = some (g'', o') ∧ g' ≤ g'') :
    Ext fid Γ w (Γ.addLoc w.heap.size fid t g) w' ∧ RepS E (Γ.addLoc w.heap.size fid t g) σ w' ∧ RepL fid (Γ.addLoc w.heap.size fid t g) locs w' := by
  have hx : Ext fid Γ w (Γ.addLoc w.heap.size fid t g) w' :=
    h.ext hS _ (fun b hb => by simp [Gh.addLoc, Gh.setKind, hb]) (fun _ _ e => e)
      (fun f' t' g' b e => by
        have : ¬ (f' = fid ∧ t' = t ∧ g' = g) := fun he => by obtain ⟨rfl, rfl, rfl⟩ := he; rw [hnone] at e; simp at e
        simp [Gh.addLoc, this, e]) (fun _ _ _ e => e)
      (fun f' t' g' hlt => by
        have : ¬ (f' = fid ∧ t' = t ∧ g' = g) := fun he => by omega
        simp [Gh.addLoc, this])
  have kold : ∀ b, b < w.heap.size → (Γ.addLoc w.heap.size fid t g).kind b = Γ.kind b := fun b hb => by simp [Gh.addLoc, Gh.setKind]; omega
  refine ⟨hx, ?_, ?_⟩
  · exact
    { objNew := hS.objNew
      tokNew := hS.tokNew
      tokTop := hS.tokTop
      locNew := fun f' t' g' hle => by
        have : ¬ (f' = fid ∧ t' = t ∧ g' = g) := fun he => by omega
        simp [Gh.addLoc, this, hS.locNew f' t' g' hle]
      obj := fun id b e => by
        obtain ⟨k, o', ob', e1, e2, r⟩ := hS.obj id b e
        exact ⟨by rw [kold b (lt_of_heap e2)]; exact k, o', ob', e1, by rw [h.get_old (lt_of_heap e2)]; exact e2, r.mono hx⟩
      loc := fun f' t' g' b e => by
        by_cases he : f' = fid ∧ t' = t ∧ g' = g
        · obtain ⟨rfl, rfl, rfl⟩ := he
          simp only [Gh.addLoc, and_self, if_true, Option.some.injEq] at e
          subst e
          exact ⟨by simp [Gh.addLoc, Gh.setKind], by rw [h.size]; omega⟩
        · have e' : Γ.loc f' t' g' = some b := by simpa [Gh.addLoc, he] using e
          obtain ⟨k, hb⟩ := hS.loc f' t' g' b e'
          exact ⟨by rw [kold b hb]; exact k, by rw [h.size]; omega⟩
      tok := fun g m b off e e' => by
        obtain ⟨k, arr, e1, e2⟩ := hS.tok g m b off e e'
        exact ⟨by rw [kold b (lt_of_heap e2)]; exact k, arr, e1, by rw [h.get_old (lt_of_heap e2)]; exact e2⟩
      fresh := fun b hb => by
        rw [h.size] at hb
        have := hS.fresh b (by omega)
        have hne : b ≠ w.heap.size := by omega
        simp [Gh.addLoc, Gh.setKind, hne, this]
      glob := fun g cells e => by
        obtain ⟨k, e1, c, e2, e3⟩ := hS.glob g cells e
        exact ⟨by rw [kold g e1]; exact k, by rw [h.size]; omega, c, fun i hi => h.cell_old (e2 i hi), fun i hi => (e3 i hi).mono hx⟩ }
  · refine ⟨fun t' g' o' b e e' => ?_, fun t' g' b e => ?_⟩
    · by_cases ht : t' = t
      · subst ht
        rw [hget] at e
        simp only [Option.some.injEq, Prod.mk.injEq] at e
        obtain ⟨rfl, rfl⟩ := e
        simp only [Gh.addLoc, and_self, if_true, Option.some.injEq] at e'
        subst e'
        exact ⟨ob, h.get_new, hr.mono hx⟩
      · have e'' : Γ.loc fid t' g' = some b := by simpa [Gh.addLoc, ht] using e'
        obtain ⟨ob', e1, r⟩ := hown t' g' o' b ht e e''
        exact ⟨ob', by rw [h.get_old (lt_of_heap e1)]; exact e1, r.mono hx⟩
    · by_cases he : t' = t ∧ g' = g
      · obtain ⟨rfl, rfl⟩ := he
        exact ⟨g', o, hget, Nat.le_refl _⟩
      · have e' : Γ.loc fid t' g' = some b := by simpa [Gh.addLoc, he] using e
        exact hgen t' g' b e'

def Gh.addTok (Γ : Gh) (b g n off : Nat) : Gh := { Γ.setKind b (.pure (off + n) (some g)) with tok := fun g' n' => if g' = g ∧ n' = n then some (b, off) else Γ.tok g' n' }

/-- A new row with room behind it, of group g (a new one, or one whose top was lower), its first n cells written. -/
theorem Grew.tok {arr : Array Value} {e : TypeId} (h : Grew w w' (.cells arr e (0, 0))) (hS : RepS E Γ σ w) (g n ng : Nat)
    (hg : g < ng) (hng : σ.ngrp ≤ ng) (hnone : ∀ m, n ≤ m → Γ.tok g m = none) :
    Ext fid Γ w (Γ.addTok w.heap.size g n 0) w' ∧ RepS E (Γ.addTok w.heap.size g n 0) { σ with ngrp := ng, tops := σ.tops.set g n } w' := by
  have hx : Ext fid Γ w (Γ.addTok w.heap.size g n 0) w' :=
    h.ext hS _ (fun b hb => by simp [Gh.addTok, Gh.setKind, hb]) (fun _ _ e => e) (fun _ _ _ _ e => e)
      (fun g' n' x e => by
        have : ¬ (g' = g ∧ n' = n) := fun he => by obtain ⟨rfl, rfl⟩ := he; rw [hnone _ (Nat.le_refl _)] at e; simp at e
        simp [Gh.addTok, this, e]) (fun _ _ _ _ => rfl)
  have kold : ∀ b, b < w.heap.size → (Γ.addTok w.heap.size g n 0).kind b = Γ.kind b := fun b hb => by simp [Gh.addTok, Gh.setKind]; omega
  refine ⟨hx, ?_⟩
  exact
  { objNew := hS.objNew
    locNew := hS.locNew
    obj := fun id b e => by
      obtain ⟨k, o', ob', e1, e2, r⟩ := hS.obj id b e
      exact ⟨by rw [kold b (lt_of_heap e2)]; exact k, o', ob', e1, by rw [h.get_old (lt_of_heap e2)]; exact e2, r.mono hx⟩
    loc := fun f t g b e => by
      obtain ⟨k, hb⟩ := hS.loc f t g b e
      exact ⟨by rw [kold b hb]; exact k, by rw [h.size]; omega⟩
    tokNew := fun g' hle m => by
      have : ¬ (g' = g ∧ m = n) := fun he => by simp at hle; omega
      simp only [Gh.addTok, this, if_false]
      exact hS.tokNew g' (by simp at hle; omega) m
    tokTop := fun g' n' e m hm => by
      by_cases hgg : g' = g
      · subst hgg
        rw [T.get_set_same] at e
        simp only [Option.some.injEq] at e
        subst e
        have : m ≠ n := by omega
        simp only [Gh.addTok, true_and, if_neg this]
        exact hnone m (by omega)
      · rw [T.get_set_ne _ _ hgg] at e
        have : ¬ (g' = g ∧ m = n) := fun he => hgg he.1
        simp only [Gh.addTok, this, if_false]
        exact hS.tokTop g' n' e m hm
    tok := fun g' m b off e e' => by
      by_cases hgg : g' = g
      · subst hgg
        rw [T.get_set_same] at e
        simp only [Option.some.injEq] at e
        subst e
        simp only [Gh.addTok, and_self, if_true, Option.some.injEq, Prod.mk.injEq] at e'
        obtain ⟨rfl, rfl⟩ := e'
        exact ⟨by simp [Gh.addTok, Gh.setKind], _, _, h.get_new⟩
      · rw [T.get_set_ne _ _ hgg] at e
        have hne : ¬ (g' = g ∧ m = n) := fun he => hgg he.1
        simp only [Gh.addTok, hne, if_false] at e'
        obtain ⟨k, arr', e1, e2⟩ := hS.tok g' m b off e e'
        exact ⟨by rw [kold b (lt_of_heap e2)]; exact k, arr', e1, by rw [h.get_old (lt_of_heap e2)]; exact e2⟩
    fresh := fun b hb => by
      rw [h.size] at hb
      have := hS.fresh b (by omega)
      have hne : b ≠ w.heap.size := by omega
      simp [Gh.addTok, Gh.setKind, hne, this]
    glob := fun g cells e => by
      obtain ⟨k, e1, c, e2, e3⟩ := hS.glob g cells e
      exact ⟨by rw [kold g e1]; exact k, by rw [h.size]; omega, c, fun i hi => h.cell_old (e2 i hi), fun i hi => (e3 i hi).mono hx⟩ }
end

/-- One block is another one now; nothing else has turned. -/
structure Put (w w' : World) (b : Nat) (ob : Obj) : Prop where
  lt : b < w.heap.size
  get_same : w'.heap[b]? = some ob
  get_ne : ∀ {x : Nat}, x ≠ b → w'.heap[x]? = w.heap[x]?
  size : w'.heap.size = w.heap.size
  os : w'.os = w.os
  output : w'.output = w.output
  tape : w'.tape = w.tape

section
variable {fid : Nat} {E : Env} {Γ : Gh} {σ : Sig} {w w' : World} {b : Nat} {ob : Obj}

/-- A block that is an object, or a variable, is written. -/
theorem Put.ext (h : Put w w' b ob) (hshape : ∀ x, w.shape? b = some x → w'.shape? b = some x) (hk : (∃ id, Γ.kind b = .obj id) ∨ ∃ t g, Γ.loc fid t g = some b ∧ Γ.kind b = .loc fid t g)
    (hS : RepS E Γ σ w) : Ext fid Γ w Γ w' where
  size := by rw [h.size]; exact Nat.le_refl _
  obj _ _ e := e
  loc _ _ _ _ e := e
  tok _ _ _ e := e
  others _ _ _ _ := rfl
  keepLoc f t g b' hlt e := by
    refine h.get_ne fun he => ?_
    subst he
    have := (hS.loc f t g b' e).1
    rcases hk with ⟨id, hk⟩ | ⟨t', g', _, hk⟩
    · rw [hk] at this; simp at this
    · rw [hk] at this
      simp only [Kind.loc.injEq] at this
      omega
  foreign b' hb e := by
    refine ⟨e, h.get_ne fun he => ?_⟩
    subst he
    rcases hk with ⟨id, hk⟩ | ⟨t', g', _, hk⟩ <;> (rw [hk] at e; simp at e)
  pure b' n o e := by
    refine ⟨⟨n, o, e, Nat.le_refl _⟩, fun i _ => cell?_of_heap (h.get_ne fun he => ?_) i⟩
    subst he
    rcases hk with ⟨id, hk⟩ | ⟨t', g', _, hk⟩ <;> (rw [hk] at e; simp at e)
  still b' n hb e := by
    refine ⟨e, h.get_ne fun he => ?_⟩
    subst he
    rcases hk with ⟨id, hk⟩ | ⟨t', g', _, hk⟩ <;> (rw [hk] at e; simp at e)
  shape x y e := by
    by_cases hx : x = b
    · subst hx; exact hshape y e
    · rw [shape?_of_heap (h.get_ne hx)]; exact e
  os := h.os
  output := h.output

/-- An object is written. -/
theorem Put.obj (h : Put w w' b ob) (hshape : ∀ x, w.shape? b = some x → w'.shape? b = some x) (hS : RepS E Γ σ w) {locs : T (Nat × AObj)} (hL : RepL fid Γ locs w) (id : Nat) (hid : Γ.obj id = some b) (o : AObj) (hr : ORel Γ w o ob) :
    Ext fid Γ w Γ w' ∧ RepS E Γ { σ with objs := σ.objs.set id o } w' ∧ RepL fid Γ locs w' := by
  have hkind := (hS.obj id b hid).1
  have hx : Ext fid Γ w Γ w' := h.ext hshape (.inl ⟨id, hkind⟩) hS
  refine ⟨hx, ?_, ?_⟩
  · exact
    { hS with
      obj := fun id' b' e => by
        obtain ⟨k, o', ob', e1, e2, r⟩ := hS.obj id' b' e
        by_cases hi : id' = id
        · subst hi
          rw [hid] at e
          simp only [Option.some.injEq] at e
          subst e
          exact ⟨k, o, ob, T.get_set_same _ _ _, h.get_same, hr.mono hx⟩
        · have hb : b' ≠ b := fun he => by subst he; rw [hkind] at k; simp at k; exact hi k.symm
          exact ⟨k, o', ob', by rw [T.get_set_ne _ _ hi]; exact e1, by rw [h.get_ne hb]; exact e2, r.mono hx⟩
      loc := fun f t g b' e => by rw [h.size]; exact hS.loc f t g b' e
      tok := fun g n b' off e e' => by
        obtain ⟨k, arr, e1, e2⟩ := hS.tok g n b' off e e'
        have hb : b' ≠ b := fun he => by subst he; rw [hkind] at k; simp at k
        exact ⟨k, arr, e1, by rw [h.get_ne hb]; exact e2⟩
      fresh := fun b' hb => hS.fresh b' (by rw [h.size] at hb; exact hb)
      glob := fun g cells e => by
        obtain ⟨k, e1, c, e2, e3⟩ := hS.glob g cells e
        have hb : g ≠ b := fun he => by subst he; rw [hkind] at k; simp at k
        exact ⟨k, by rw [h.size]; exact e1, c, fun i hi => by rw [cell?_of_heap (h.get_ne hb)]; exact e2 i hi, fun i hi => (e3 i hi).mono hx⟩ }
  · exact
    { hL with
      own := fun t g o' b' e e' => by
        obtain ⟨ob', e1, r⟩ := hL.own t g o' b' e e'
        have hb : b' ≠ b := fun he => by
          subst he
          have := (hS.loc _ _ _ _ e').1
          rw [hkind] at this; simp at this
        exact ⟨ob', by rw [h.get_ne hb]; exact e1, r.mono hx⟩ }

/-- A variable of one's own is written. -/
theorem Put.loc (h : Put w w' b ob) (hshape : ∀ x, w.shape? b = some x → w'.shape? b = some x) (hS : RepS E Γ σ w) {locs : T (Nat × AObj)} (hL : RepL fid Γ locs w) (t g : Nat) (old : AObj)
    (hloc : Γ.loc fid t g = some b) (hget : locs.get t = some (g, old)) (o : AObj) (hr : ORel Γ w o ob) :
    Ext fid Γ w Γ w' ∧ RepS E Γ σ w' ∧ RepL fid Γ (locs.set t (g, o)) w' := by
  have hkind := (hS.loc fid t g b hloc).1
  have hx : Ext fid Γ w Γ w' := h.ext hshape (.inr ⟨t, g, hloc, hkind⟩) hS
  refine ⟨hx, ?_, ?_⟩
  · exact
    { hS with
      obj := fun id' b' e => by
        obtain ⟨k, o', ob', e1, e2, r⟩ := hS.obj id' b' e
        have hb : b' ≠ b := fun he => by subst he; rw [hkind] at k; simp at k
        exact ⟨k, o', ob', e1, by rw [h.get_ne hb]; exact e2, r.mono hx⟩
      loc := fun f t g b' e => by rw [h.size]; exact hS.loc f t g b' e
      tok := fun g n b' off e e' => by
        obtain ⟨k, arr, e1, e2⟩ := hS.tok g n b' off e e'
        have hb : b' ≠ b := fun he => by subst he; rw [hkind] at k; simp at k
        exact ⟨k, arr, e1, by rw [h.get_ne hb]; exact e2⟩
      fresh := fun b' hb => hS.fresh b' (by rw [h.size] at hb; exact hb)
      glob := fun g cells e => by
        obtain ⟨k, e1, c, e2, e3⟩ := hS.glob g cells e
        have hb : g ≠ b := fun he => by subst he; rw [hkind] at k; simp at k
        exact ⟨k, by rw [h.size]; exact e1, c, fun i hi => by rw [cell?_of_heap (h.get_ne hb)]; exact e2 i hi, fun i hi => (e3 i hi).mono hx⟩ }
  · refine ⟨fun t' g' o' b' e e' => ?_, fun t' g' b' e => ?_⟩
    · by_cases ht : t' = t
      · subst ht
        rw [T.get_set_same] at e
        simp only [Option.some.injEq, Prod.mk.injEq] at e
        obtain ⟨rfl, rfl⟩ := e
        rw [hloc] at e'
        simp only [Option.some.injEq] at e'
        subst e'
        exact ⟨ob, h.get_same, hr.mono hx⟩
      · rw [T.get_set_ne _ _ ht] at e
        obtain ⟨ob', e1, r⟩ := hL.own t' g' o' b' e e'
        have hb : b' ≠ b := fun he => by
          subst he
          have := (hS.loc _ _ _ _ e').1
          rw [hkind] at this
          simp only [Kind.loc.injEq] at this
          exact ht this.2.1.symm
        exact ⟨ob', by rw [h.get_ne hb]; exact e1, r.mono hx⟩
    · by_cases ht : t' = t
      · subst ht
        obtain ⟨g'', o', e1, hle⟩ := hL.gen t' g' b' e
        rw [hget] at e1
        simp only [Option.some.injEq, Prod.mk.injEq] at e1
        exact ⟨g, o, T.get_set_same _ _ _, by omega⟩
      · obtain ⟨g'', o', e1, hle⟩ := hL.gen t' g' b' e
        exact ⟨g'', o', by rw [T.get_set_ne _ _ ht]; exact e1, hle⟩

/-- Cells are written behind the top of a row. -/
theorem Put.tok {arr arr' : Array Value} {e : TypeId} (h : Put w w' b (.cells arr' e (0, 0))) (hold : w.heap[b]? = some (.cells arr e (0, 0))) (hsz : arr'.size = arr.size) (hS : RepS E Γ σ w)
    {locs : T (Nat × AObj)} (hL : RepL fid Γ locs w) (g n m off : Nat) (htop : σ.tops.get g = some n) (htok : Γ.tok g n = some (b, off)) (hnm : n < m)
    (hsame : ∀ i, i < off + n → arr'[i]? = arr[i]?) :
    Ext fid Γ w (Γ.addTok b g m off) w' ∧ RepS E (Γ.addTok b g m off) { σ with tops := σ.tops.set g m } w' ∧ RepL fid (Γ.addTok b g m off) locs w' := by
  have hkind := (hS.tok g n b off htop htok).1
  have hnew := hS.tokTop g n htop
  have kne : ∀ x, x ≠ b → (Γ.addTok b g m off).kind x = Γ.kind x := fun x hx => by simp [Gh.addTok, Gh.setKind, hx]
  have hx : Ext fid Γ w (Γ.addTok b g m off) w' :=
    { size := by rw [h.size]; exact Nat.le_refl _
      obj := fun _ _ e => e
      loc := fun _ _ _ _ e => e
      tok := fun g' n' x e => by
        have : ¬ (g' = g ∧ n' = m) := fun he => by obtain ⟨rfl, rfl⟩ := he; rw [hnew _ hnm] at e; simp at e
        simp [Gh.addTok, this, e]
      others := fun _ _ _ _ => rfl
      keepLoc := fun f t g' b' _ e => h.get_ne fun he => by
        subst he
        have := (hS.loc f t g' b' e).1
        rw [hkind] at this; simp at this
      foreign := fun b' _ e => by
        have hb : b' ≠ b := fun he => by subst he; rw [hkind] at e; simp at e
        exact ⟨by rw [kne _ hb]; exact e, h.get_ne hb⟩
      pure := fun b' n' o e => by
        by_cases hb : b' = b
        · subst hb
          rw [hkind] at e
          simp only [Kind.pure.injEq] at e
          obtain ⟨rfl, rfl⟩ := e
          refine ⟨⟨off + m, some g, by simp [Gh.addTok, Gh.setKind], by omega⟩, fun i hi => ?_⟩
          simp only [World.cell?, h.get_same, hold]
          simp [hsame i hi]
        · exact ⟨⟨n', o, by rw [kne _ hb]; exact e, Nat.le_refl _⟩, fun i _ => cell?_of_heap (h.get_ne hb) i⟩
      still := fun b' n' _ e => by
        have hb : b' ≠ b := fun he => by subst he; rw [hkind] at e; simp at e
        exact ⟨by rw [kne _ hb]; exact e, h.get_ne hb⟩
      shape := fun x y e => by
        by_cases hx : x = b
        · subst hx
          simp only [World.shape?, hold, h.get_same] at e ⊢
          rw [hsz]; exact e
        · rw [shape?_of_heap (h.get_ne hx)]; exact e
      os := h.os
      output := h.output }
  refine ⟨hx, ?_, ?_⟩
  · exact
    { objNew := hS.objNew
      locNew := hS.locNew
      obj := fun id' b' e => by
        obtain ⟨k, o', ob', e1, e2, r⟩ := hS.obj id' b' e
        have hb : b' ≠ b := fun he => by subst he; rw [hkind] at k; simp at k
        exact ⟨by rw [kne _ hb]; exact k, o', ob', e1, by rw [h.get_ne hb]; exact e2, r.mono hx⟩
      loc := fun f t g' b' e => by
        obtain ⟨k, hb'⟩ := hS.loc f t g' b' e
        have hb : b' ≠ b := fun he => by subst he; rw [hkind] at k; simp at k
        exact ⟨by rw [kne _ hb]; exact k, by rw [h.size]; exact hb'⟩
      tokNew := fun g' hle n' => by
        have hgg : g' ≠ g := fun he => by subst he; rw [hS.tokNew g' hle n] at htok; simp at htok
        have : ¬ (g' = g ∧ n' = m) := fun he => hgg he.1
        simp only [Gh.addTok, this, if_false]
        exact hS.tokNew g' hle n'
      tokTop := fun g' n' e n'' hn => by
        by_cases hgg : g' = g
        · subst hgg
          rw [T.get_set_same] at e
          simp only [Option.some.injEq] at e
          subst e
          have : n'' ≠ m := by omega
          simp only [Gh.addTok, true_and, if_neg this]
          exact hnew n'' (by omega)
        · rw [T.get_set_ne _ _ hgg] at e
          have : ¬ (g' = g ∧ n'' = m) := fun he => hgg he.1
          simp only [Gh.addTok, this, if_false]
          exact hS.tokTop g' n' e n'' hn
      tok := fun g' n' b' off' e e' => by
        by_cases hgg : g' = g
        · subst hgg
          rw [T.get_set_same] at e
          simp only [Option.some.injEq] at e
          subst e
          simp only [Gh.addTok, and_self, if_true, Option.some.injEq, Prod.mk.injEq] at e'
          obtain ⟨rfl, rfl⟩ := e'
          exact ⟨by simp [Gh.addTok, Gh.setKind], _, _, h.get_same⟩
        · rw [T.get_set_ne _ _ hgg] at e
          have hne : ¬ (g' = g ∧ n' = m) := fun he => hgg he.1
          simp only [Gh.addTok, hne, if_false] at e'
          obtain ⟨k, arr2, e1, e2⟩ := hS.tok g' n' b' off' e e'
          have hb : b' ≠ b := fun he => by
            subst he; rw [hkind] at k; simp at k; exact hgg k.2.symm
          exact ⟨by rw [kne _ hb]; exact k, arr2, e1, by rw [h.get_ne hb]; exact e2⟩
      fresh := fun b' hb' => by
        rw [h.size] at hb'
        have hb : b' ≠ b := by have := h.lt; omega
        rw [kne _ hb]; exact hS.fresh b' hb'
      glob := fun g' cells e => by
        obtain ⟨k, e1, c, e2, e3⟩ := hS.glob g' cells e
        have hb : g' ≠ b := fun he => by subst he; rw [hkind] at k; simp at k
        exact ⟨by rw [kne _ hb]; exact k, by rw [h.size]; exact e1, c, fun i hi => by rw [cell?_of_heap (h.get_ne hb)]; exact e2 i hi, fun i hi => (e3 i hi).mono hx⟩ }
  · exact
    { own := fun t g' o' b' e e' => by
        obtain ⟨ob', e1, r⟩ := hL.own t g' o' b' e e'
        have hb : b' ≠ b := fun he => by
          subst he
          have := (hS.loc _ _ _ _ e').1
          rw [hkind] at this; simp at this
        exact ⟨ob', by rw [h.get_ne hb]; exact e1, r.mono hx⟩
      gen := hL.gen }
end

end Go.Ax
