/-
  AE: stores, new variables, maps.
-/
import Derived.Test.YtlcfmdedkkmnmaaGreatDoorAxActs
namespace Go.Ax
section
variable {P : Program} {E : Env} {Γ : Gh} {w : World} {fid : Nat} {dst : Option Tmp} {M : Mem}

theorem one_rel {v : AV} {c : Value} (h : VRel Γ w v c) (h1 : v.one = true) : c.oneCell' = true := by
  cases h <;> first | rfl | simp [AV.one] at h1

theorem ones_rel : ∀ {vs : List AV} {cs : List Value}, VsRel Γ w vs cs → vs.all AV.one = true → ∀ c ∈ cs, c.oneCell' = true
  | _, _, .nil, _ => by simp
  | _, _, .cons h r, h1 => by
    simp only [List.all_cons, Bool.and_eq_true] at h1
    intro c hc
    simp only [List.mem_cons] at hc
    rcases hc with rfl | hc
    · exact one_rel h h1.1
    · exact ones_rel r h1.2 c hc

theorem setRow_put {b : Nat} {arr : Array Value} {e : TypeId} (h : w.heap[b]? = some (.cells arr e (0, 0))) (new : Array Value) : Put w (w.setRow b new) b (.cells new e (0, 0)) where
  lt := lt_of_heap h
  get_same := setRow_heap w b arr new e (0, 0) h
  get_ne := fun hx => setRow_other w b _ new hx
  size := by simp
  os := rfl
  output := rfl
  tape := rfl

theorem setRow_shape {b : Nat} {arr new : Array Value} {e : TypeId} {w' : World} (h : w.heap[b]? = some (.cells arr e (0, 0))) (hp : Put w w' b (.cells new e (0, 0))) (hsz : new.size = arr.size) :
    ∀ x, w.shape? b = some x → w'.shape? b = some x := by
  intro x hx
  simp only [World.shape?, h, hp.get_same] at hx ⊢
  rw [hsz]; exact hx

theorem storeA_ok (hE : EnvOK P E) {t : TypeId} {ti : TI} {p v : AV} {M' : Mem} (hti : E.ti t = some ti) (hlen : v.cells.length = ti.size) (hone : v.cells.all AV.one = true) (h : storeA fid M p v.cells = some M')
    {cp cv : Value} (hp : VRel Γ w p cp) (hv : VRel Γ w v cv) (hS : RepS E Γ M.sig w) (hL : RepL fid Γ M.locs w) :
    ∃ Γ' w', (Instr.storeAt t cp cv).run P w = .ok () w' ∧ OpOut E fid dst Γ w M M' aundef undef Γ' w' := by
  have hcells := hv.cells
  have hcl := hcells.length
  have hsz : cv.cells.size = ti.size := by simp at hcl; omega
  have hones := ones_rel hcells hone
  have run : ∀ {b off : Nat} {arr : Array Value} {e : TypeId}, w.heap[b]? = some (.cells arr e (0, 0)) → off + cv.cells.toList.length ≤ arr.size →
      (Instr.storeAt t (.pointer (some ⟨b, off, none⟩)) cv).run P w = .ok () (w.setRow b (arr.toList.take off ++ cv.cells.toList ++ arr.toList.drop (off + cv.cells.toList.length)).toArray) := by
    intro b off arr e hb hle
    have := run_storeCells_at P b off e cv.cells.toList 0 arr w hb (by simpa using hle) hones
    simp only [Nat.add_zero] at this
    simp only [Instr.storeAt, Instr.sureAddr, Sem.run_bind, Sem.run_pure, Result.andThen_ok, storeVar, (hE.ti t ti hti).size, hsz, ne_eq, not_true, if_false]
    exact this
  unfold storeA at h
  split at h
  · rename_i id off
    split at h
    · rename_i cs hget
      split at h
      · rename_i cs' hcs
        simp only [Option.some.injEq] at h
        subst h
        cases hp with
        | obj _ _ b e =>
          obtain ⟨_, o, ob, e1, e2, r⟩ := hS.obj _ b e
          rw [hget] at e1
          simp only [Option.some.injEq] at e1
          subst e1
          cases ob <;> simp only [ORel] at r
          rename_i arr ty frz
          obtain ⟨rfl, r⟩ := r
          obtain ⟨hle, hrel⟩ := paste_rel hcs r hcells
          have hput := setRow_put (w := w) e2 (arr.toList.take off ++ cv.cells.toList ++ arr.toList.drop (off + cv.cells.toList.length)).toArray
          have hshape := setRow_shape e2 hput (by simp at hle ⊢; omega)
          obtain ⟨hx, hS', hL'⟩ := hput.obj hshape hS hL id e (.cells cs') ⟨rfl, by simpa using hrel⟩
          exact ⟨Γ, _, run e2 (by simpa using hle), hx, hS', hL', .tuple [] #[] rfl (by simp), fun _ _ _ => rfl, fun _ _ _ => rfl, Nat.le_refl _⟩
      · simp at h
    · simp at h
  · rename_i f t' g off
    split at h
    · rename_i hf
      split at h
      · rename_i g' cs hget
        split at h
        · rename_i hg
          split at h
          · rename_i cs' hcs
            simp only [Option.some.injEq] at h
            subst h hf hg
            cases hp with
            | loc _ _ _ _ b e =>
              obtain ⟨ob, e2, r⟩ := hL.own _ _ _ b hget e
              cases ob <;> simp only [ORel] at r
              rename_i arr ty frz
              obtain ⟨rfl, r⟩ := r
              obtain ⟨hle, hrel⟩ := paste_rel hcs r hcells
              have hput := setRow_put (w := w) e2 (arr.toList.take off ++ cv.cells.toList ++ arr.toList.drop (off + cv.cells.toList.length)).toArray
              have hshape := setRow_shape e2 hput (by simp at hle ⊢; omega)
              obtain ⟨hx, hS', hL'⟩ := hput.loc hshape hS hL _ _ _ e hget (.cells cs') ⟨rfl, by simpa using hrel⟩
              refine ⟨Γ, _, run e2 (by simpa using hle), hx, hS', hL', .tuple [] #[] rfl (by simp), fun _ _ _ => rfl, fun t' _ hnone => ?_, Nat.le_refl _⟩
              refine T.get_set_ne _ _ fun ht => ?_
              subst ht
              rw [hnone _ _ hget] at e
              simp at e
          · simp at h
        · simp at h
      · simp at h
    · simp at h
  · simp at h

theorem local_fresh (hL : RepL fid Γ M.locs w) {t g : Nat} (hg : g = nextGen M.locs t) : Γ.loc fid t g = none := by
  cases hl : Γ.loc fid t g with
  | none => rfl
  | some b =>
    obtain ⟨g', o, e1, hle⟩ := hL.gen t g b hl
    simp only [nextGen, e1] at hg
    omega

/-- A new variable of one's own. -/
theorem local_ok {w' : World} {ob : Obj} (hg : Grew w w' ob) {t : Nat} {o : AObj} {v : AV} {M' : Mem} (h : localA fid M t o = (v, M')) (hr : ORel Γ w o ob) (hS : RepS E Γ M.sig w) (hL : RepL fid Γ M.locs w) (hf : fid < M.sig.nfr) :
    ∃ Γ', OpOut E fid (some t) Γ w M M' v (.pointer (some ⟨w.heap.size, 0, none⟩)) Γ' w' := by
  unfold localA at h
  simp only [Prod.mk.injEq] at h
  obtain ⟨rfl, rfl⟩ := h
  obtain ⟨g, hgd⟩ : ∃ g, g = nextGen M.locs t := ⟨_, rfl⟩
  rw [← hgd]
  have hnone := local_fresh hL hgd
  obtain ⟨hx, hS', hL'⟩ := hg.loc hS (locs := M.locs.set t (g, o)) hf t g o hr hnone (T.get_set_same _ _ _)
    (fun t' g' o' b ht e e' => by rw [T.get_set_ne _ _ ht] at e; exact hL.own t' g' o' b e e')
    (fun t' g' b e => by
      obtain ⟨g'', o', e1, hle⟩ := hL.gen t' g' b e
      by_cases ht : t' = t
      · subst ht
        simp only [nextGen, e1] at hgd
        exact ⟨g, o, T.get_set_same _ _ _, by omega⟩
      · exact ⟨g'', o', by rw [T.get_set_ne _ _ ht]; exact e1, hle⟩)
  refine ⟨_, hx, hS', hL', .loc _ _ _ _ _ (by simp [Gh.addLoc]), fun t' g' ht => ?_, fun t' ht _ => ?_, Nat.le_refl _⟩
  · have : ¬ (t' = t ∧ g' = g) := fun e => ht (by rw [e.1])
    simp [Gh.addLoc, this]
  · exact T.get_set_ne _ _ fun e => ht (by rw [e])

theorem allocA_ok {w' : World} {arr : Array Value} {e : TypeId} (hg : Grew w w' (.cells arr e (0, 0))) {fn : FuncId} {cs : List AV} {v : AV} {M' : Mem} (h : allocA E fn fid M dst cs = some (v, M')) (hr : VsRel Γ w cs arr.toList)
    (hS : RepS E Γ M.sig w) (hL : RepL fid Γ M.locs w) (hf : fid < M.sig.nfr) : ∃ Γ', OpOut E fid dst Γ w M M' v (.pointer (some ⟨w.heap.size, 0, none⟩)) Γ' w' := by
  unfold allocA at h
  split at h
  · simp at h
  · rename_i t
    split at h
    · simp only [newA, Option.some.injEq, Prod.mk.injEq] at h
      obtain ⟨rfl, rfl⟩ := h
      obtain ⟨hx, hS'⟩ := hg.obj (fid := fid) hS (.cells cs) ⟨rfl, hr⟩
      exact ⟨_, hx, hS', hg.repL hL hx (fun _ _ => rfl), .obj _ _ _ (by simp [Gh.addObj]), fun _ _ _ => rfl, fun _ _ _ => rfl, Nat.le_refl _⟩
    · simp only [Option.some.injEq] at h
      exact local_ok hg h ⟨rfl, hr⟩ hS hL hf

theorem alloc_run (hE : EnvOK P E) {e : TypeId} {ti : TI} (hti : E.ti e = some ti) : ∃ z : Value, (Instr.alloc e true (.tuple #[])).run P w = .ok (.pointer (some ⟨w.heap.size, 0, none⟩)) (w.alloc (.cells z.cells e)) ∧ VsRel Γ w ti.zero z.cells.toList := by
  obtain ⟨z, hz1, hz2, _⟩ := (hE.ti e ti hti).zero (P := P) (Γ := Γ) (w := w)
  exact ⟨z, by simp [Instr.alloc, hz1, newVar, newRow], hz2⟩

theorem makeMap_ok {v : AV} {M' : Mem} {t : TypeId} {i : Nat} (h : newA M (.amap []) = (i, M')) (hv : v = .map i) (hS : RepS E Γ M.sig w) (hL : RepL fid Γ M.locs w) : ActOK P E fid dst (Instr.makeMap t none) Γ w M M' v := by
  simp only [newA, Prod.mk.injEq] at h
  obtain ⟨rfl, rfl⟩ := h
  subst hv
  have hg := grew_alloc w (.map #[] 0)
  obtain ⟨hx, hS'⟩ := hg.obj (fid := fid) hS (.amap []) ⟨.nil, .nil, MapKept.stamped_empty _⟩
  exact ⟨.map (some w.heap.size), _, _, by simp [Instr.makeMap], hx, hS', hg.repL hL hx (fun _ _ => rfl), .map _ _ (by simp [Gh.addObj]), fun _ _ _ => rfl, fun _ _ _ => rfl, Nat.le_refl _⟩

theorem emptyMap_ok {t : TypeId} (hS : RepS E Γ M.sig w) (hL : RepL fid Γ M.locs w) : ActOK P E fid dst (Instr.makeMap t none) Γ w M M .emap := by
  have hg := grew_alloc w (.map #[] 0)
  obtain ⟨hx, hS'⟩ := hg.foreign (fid := fid) hS
  exact ⟨.map (some w.heap.size), Γ, _, by simp [Instr.makeMap], hx, hS', hg.repL hL hx (fun _ _ => rfl), .emap _ 0 (hS.fresh _ (Nat.le_refl _)) hg.get_new, fun _ _ _ => rfl, fun _ _ _ => rfl, Nat.le_refl _⟩

theorem run_setObj_map {b : Nat} {es es' : Array MapEntry} {c c' : Nat} (h : w.heap[b]? = some (.map es c)) :
    (setObj b (.map es' c')).run P w = .ok () { w with heap := w.heap.setIfInBounds b (.map es' c') } := by
  simp only [setObj, Sem.run, h]

theorem setObj_put {b : Nat} (hb : b < w.heap.size) (ob : Obj) : Put w { w with heap := w.heap.setIfInBounds b ob } b ob where
  lt := hb
  get_same := by simp [hb]
  get_ne := fun hx => by simp [Array.getElem?_setIfInBounds_ne (Ne.symm hx)]
  size := by simp
  os := rfl
  output := rfl
  tape := rfl

theorem ba_beq (a b : ByteArray) : (a == b) = decide (a = b) := by
  cases a with | mk a => cases b with | mk b =>
  show (a == b) = _
  rw [Bool.eq_iff_iff]; simp

theorem map_eraseIdx' {α β : Type} (f : α → β) : ∀ (l : List α) (i : Nat), (l.eraseIdx i).map f = (l.map f).eraseIdx i
  | [], i => by simp
  | a :: l, 0 => by simp
  | a :: l, i + 1 => by simp [map_eraseIdx' f l i]

theorem sameBits_self {x : AV} {c : Value} (h : (∃ k n, x = .int k n) ∨ ∃ s, x = .str s) (hr : VRel Γ w x c) {y : AV} {d : Value} (hy : VRel Γ w y d) (he : scalarEq x y = some true) : d = c := by
  rcases h with ⟨k, n, rfl⟩ | ⟨s, rfl⟩
  · cases y <;> simp only [scalarEq, reduceCtorEq] at he
    split at he
    · rename_i e
      subst e
      simp at he
      subst he
      cases hr; cases hy; rfl
    · simp at he
  · cases y <;> simp only [scalarEq, reduceCtorEq] at he
    simp [ba_beq] at he
    subst he
    cases hr; cases hy; rfl

theorem findA_hit {k : AV} : ∀ {es : List (AV × AV)} {i j : Nat}, findA k es i = some (some j) → ∃ e, es[j - i]? = some e ∧ i ≤ j ∧ scalarEq k e.1 = some true
  | [], i, j, h => by simp [findA] at h
  | e :: es, i, j, h => by
    simp only [findA] at h
    split at h
    · rename_i hs
      simp only [Option.some.injEq] at h
      subst h
      exact ⟨e, by simp, Nat.le_refl _, hs⟩
    · obtain ⟨e', h1, h2, h3⟩ := findA_hit h
      refine ⟨e', ?_, by omega, h3⟩
      have : j - i = (j - (i + 1)) + 1 := by omega
      rw [this]; simpa using h1
    · simp at h

theorem vsRel_set {vs : List AV} {cs : List Value} (h : VsRel Γ w vs cs) (i : Nat) {v : AV} {c : Value} (hv : VRel Γ w v c) : VsRel Γ w (vs.set i v) (cs.set i c) := by
  induction h generalizing i with
  | nil => simp; exact .nil
  | cons h r ih => cases i with
    | zero => simp; exact .cons hv r
    | succ i => simp; exact .cons h (ih i)

theorem vsRel_erase {vs : List AV} {cs : List Value} (h : VsRel Γ w vs cs) (i : Nat) : VsRel Γ w (vs.eraseIdx i) (cs.eraseIdx i) := by
  induction h generalizing i with
  | nil => simp; exact .nil
  | cons h r ih => cases i with
    | zero => simp; exact r
    | succ i => simp; exact .cons h (ih i)

theorem map_put_out {id b : Nat} {entries : Array MapEntry} {clock : Nat} {es' : List (AV × AV)} {entries' : Array MapEntry} {clock' : Nat} (hid : Γ.obj id = some b) (hb : w.heap[b]? = some (.map entries clock))
    (r1 : VsRel Γ w (es'.map (·.1)) (entries'.toList.map (·.key))) (r2 : VsRel Γ w (es'.map (·.2)) (entries'.toList.map (·.val))) (r3 : MapKept.Stamped entries' clock') (hS : RepS E Γ M.sig w) (hL : RepL fid Γ M.locs w) :
    OpOut E fid dst Γ w M { M with sig := { M.sig with objs := M.sig.objs.set id (.amap es') } } aundef undef Γ { w with heap := w.heap.setIfInBounds b (.map entries' clock') } := by
  have hput := setObj_put (lt_of_heap hb) (.map entries' clock') (w := w)
  obtain ⟨hx, hS', hL'⟩ := hput.obj (fun x hx => by simp [World.shape?, hb] at hx) hS hL id hid (.amap es') ⟨r1, r2, r3⟩
  exact ⟨hx, hS', hL', .tuple [] #[] rfl (by simp), fun _ _ _ => rfl, fun _ _ _ => rfl, Nat.le_refl _⟩

theorem modify_map_key (entries : Array MapEntry) (i : Nat) (k v : Value) : ((entries.modify i fun e => { e with key := k, val := v }).toList.map (·.key)) = (entries.toList.map (·.key)).set i k := by
  apply List.ext_getElem?
  intro j
  simp only [List.getElem?_map, Array.getElem?_toList, Array.getElem?_modify, List.getElem?_set, List.length_map, Array.length_toList]
  by_cases h : i = j
  · subst h
    simp only [if_true]
    by_cases hl : i < entries.size <;> simp [hl]
  · simp [h]
theorem modify_map_val (entries : Array MapEntry) (i : Nat) (k v : Value) : ((entries.modify i fun e => { e with key := k, val := v }).toList.map (·.val)) = (entries.toList.map (·.val)).set i v := by
  apply List.ext_getElem?
  intro j
  simp only [List.getElem?_map, Array.getElem?_toList, Array.getElem?_modify, List.getElem?_set, List.length_map, Array.length_toList]
  by_cases h : i = j
  · subst h
    simp only [if_true]
    by_cases hl : i < entries.size <;> simp [hl]
  · simp [h]

theorem scalarEq_ne {k x : AV} {ck cx : Value} (h : scalarEq k x = some false) (hk : VRel Γ w k ck) (hx : VRel Γ w x cx) : cx ≠ ck := by
  intro e
  subst e
  unfold scalarEq at h
  split at h
  · split at h
    · rename_i hkl
      subst hkl
      cases hk
      cases hx
      simp at h
    · simp at h
  · cases hk
    cases hx
    simp at h
  · cases hk
    cases hx
    simp [ba_beq] at h
  · simp at h

theorem findA_none_ne {k : AV} {ck : Value} : ∀ {es : List (AV × AV)} {i : Nat} {ks : List Value}, findA k es i = some none → VRel Γ w k ck → VsRel Γ w (es.map (·.1)) ks → ∀ c ∈ ks, c ≠ ck
  | [], _, _, _, _, hr, c, hc => by cases hr; simp at hc
  | e :: es, i, ks, h, hk, hr, c, hc => by
    simp only [findA] at h
    cases hr with
    | cons h1 r1 =>
      split at h
      · simp at h
      · rename_i hs
        rcases List.mem_cons.1 hc with rfl | hc
        · exact scalarEq_ne hs hk h1
        · exact findA_none_ne h hk r1 c hc
      · simp at h

theorem mapPutA_ok (hE : EnvOK P E) {t : TypeId} {m k v : AV} {M' : Mem} (h : mapPutA E M t m k v = some M') {cm ck cv : Value} (hm : VRel Γ w m cm) (hk : VRel Γ w k ck) (hv : VRel Γ w v cv)
    (hS : RepS E Γ M.sig w) (hL : RepL fid Γ M.locs w) : ∃ Γ' w', (Instr.mapUpdate t cm ck cv).run P w = .ok () w' ∧ OpOut E fid dst Γ w M M' aundef undef Γ' w' := by
  unfold mapPutA at h
  split at h
  · rename_i sz by_ ze kt et id hti
    obtain ⟨d, hd, hkd, _⟩ := (hE.ti t _ hti).underlying
    simp only [KindOK] at hkd
    subst hkd
    split at h
    · rename_i ki es hki hget
      obtain ⟨dk, hdk, hkk, _⟩ := (hE.ti kt ki hki).underlying
      split at h
      · rename_i hkey
        have hcase := keyKind_ok hkey hkk hk
        have hd1 : (∃ i n, dk = .int i ∧ k = .int i n) ∨ (∃ s, dk = .string ∧ k = .str s) := by
          rcases hcase with ⟨i, n, _, h1, h2, _⟩ | ⟨s, _, h1, h2, _⟩
          · exact .inl ⟨i, n, h1, h2⟩
          · exact .inr ⟨s, h1, h2⟩
        have hd2 : (∃ i, dk = .int i) ∨ dk = .string := by
          rcases hd1 with ⟨i, n, h1, _⟩ | ⟨s, h1, _⟩
          · exact .inl ⟨i, h1⟩
          · exact .inr h1
        have hsc : (∃ k' n, k = .int k' n) ∨ ∃ s, k = .str s := by
          rcases hd1 with ⟨i, n, _, h1⟩ | ⟨s, _, h1⟩
          · exact .inl ⟨i, n, h1⟩
          · exact .inr ⟨s, h1⟩
        cases hm with
        | map _ b e =>
          obtain ⟨_, o, ob, e1, e2, r⟩ := hS.obj _ b e
          rw [hget] at e1
          simp only [Option.some.injEq] at e1
          subst e1
          cases ob <;> simp only [ORel] at r
          rename_i entries clock
          obtain ⟨r1, r2, r3⟩ := r
          have ho := run_getObj_map (P := P) e2
          split at h
          · rename_i i hfind
            simp only [Option.some.injEq] at h
            subst h
            obtain ⟨f1, f2⟩ := findNow_of hd1 hk hfind r1
            obtain ⟨f2a, f2b⟩ := f2 i rfl
            obtain ⟨en, he1, _, he3⟩ := findA_hit hfind
            simp only [Nat.sub_zero] at f1 f2b he1
            have hlt : i < entries.size := by simpa using f2b
            have hfk : (Instr.findKey kt ck entries.toList).run P w = .ok (some (i, entries[i].val)) w := findKey_run (hdk w) (by rw [f1]; simp [hlt])
            -- the key that stands there is the same
            have hkeyc : entries[i].key = ck := by
              have h1 : (es.map (·.1))[i]? = some en.1 := by simp [he1]
              obtain ⟨c, hc1, hc2⟩ := r1.getElem? h1
              have hc : entries[i].key = c := by simpa [hlt] using hc1
              rw [hc]
              exact sameBits_self hsc hk hc2 he3
            have hstay : (Instr.keyThatStays ck ck).run P w = .ok ck w := by
              rcases hsc with ⟨k', n, rfl⟩ | ⟨s, rfl⟩
              · cases hk; simp [Instr.keyThatStays, Instr.sameBits]
              · cases hk; simp [Instr.keyThatStays, Instr.sameBits, ba_beq]
            refine ⟨Γ, _, ?_, map_put_out (entries' := entries.modify i fun e => { e with key := ck, val := cv }) (clock' := clock) e e2 ?_ ?_ (MapKept.stamped_modify r3 i _ (fun _ _ => rfl) fun x _ hx => ?_) hS hL⟩
            · have hkk' : ((entries[i]?).map (·.key)).getD ck = ck := by simp [hlt, hkeyc]
              simp only [Instr.mapUpdate, Sem.run_bind, hd, Result.andThen_ok, ho, checkKey_plain (hdk w) hd2, hfk, hkk', hstay]
              exact run_setObj_map e2
            · rw [modify_map_key, List.map_set]
              exact vsRel_set r1 i hk
            · rw [modify_map_val, List.map_set]
              exact vsRel_set r2 i hv
            · have : x = entries[i] := by simpa [hlt] using hx.symm
              subst this
              exact hkeyc.symm
          · rename_i hfind
            simp only [Option.some.injEq] at h
            subst h
            obtain ⟨f1, f2⟩ := findNow_of hd1 hk hfind r1
            have hfk := findKey_run (P := P) (hdk w) f1
            refine ⟨Γ, _, ?_, map_put_out (entries' := entries.push { key := ck, val := cv, born := clock }) (clock' := clock + 1) e e2 ?_ ?_ (MapKept.stamped_push r3 fun x hx => findA_none_ne hfind hk r1 _ (List.mem_map_of_mem hx)) hS hL⟩
            · simp only [Instr.mapUpdate, Sem.run_bind, hd, Result.andThen_ok, ho, checkKey_plain (hdk w) hd2, hfk]
              exact run_setObj_map e2
            · simp only [Array.toList_push, List.map_append, List.map_cons, List.map_nil]
              exact r1.append (.cons hk .nil)
            · simp only [Array.toList_push, List.map_append, List.map_cons, List.map_nil]
              exact r2.append (.cons hv .nil)
          · simp at h
      · simp at h
    · simp at h
  · simp at h

theorem mapDelA_ok (hE : EnvOK P E) {t : TypeId} {m k : AV} {M' : Mem} (h : mapDelA E M t m k = some M') {cm ck : Value} (hm : VRel Γ w m cm) (hk : VRel Γ w k ck) {ts : Array TypeId} {as : Array Value} (ht : ts[0]? = some t)
    (ha0 : as[0]? = some cm) (ha1 : as[1]? = some ck) (ty : TypeId) (hS : RepS E Γ M.sig w) (hL : RepL fid Γ M.locs w) : ActOK P E fid dst (Builtin.delete_ ts ty as) Γ w M M' aundef := by
  unfold mapDelA at h
  split at h
  · rename_i sz by_ ze kt et id hti
    obtain ⟨d, hd, hkd, _⟩ := (hE.ti t _ hti).underlying
    simp only [KindOK] at hkd
    subst hkd
    split at h
    · rename_i ki es hki hget
      obtain ⟨dk, hdk, hkk, _⟩ := (hE.ti kt ki hki).underlying
      split at h
      · rename_i hkey
        have hcase := keyKind_ok hkey hkk hk
        have hd1 : (∃ i n, dk = .int i ∧ k = .int i n) ∨ (∃ s, dk = .string ∧ k = .str s) := by
          rcases hcase with ⟨i, n, _, h1, h2, _⟩ | ⟨s, _, h1, h2, _⟩
          · exact .inl ⟨i, n, h1, h2⟩
          · exact .inr ⟨s, h1, h2⟩
        have hd2 : (∃ i, dk = .int i) ∨ dk = .string := by
          rcases hd1 with ⟨i, n, h1, _⟩ | ⟨s, h1, _⟩
          · exact .inl ⟨i, h1⟩
          · exact .inr h1
        cases hm with
        | map _ b e =>
          obtain ⟨_, o, ob, e1, e2, r⟩ := hS.obj _ b e
          rw [hget] at e1
          simp only [Option.some.injEq] at e1
          subst e1
          cases ob <;> simp only [ORel] at r
          rename_i entries clock
          obtain ⟨r1, r2, r3⟩ := r
          have ho := run_getObj_map (P := P) e2
          split at h
          · rename_i i hfind
            simp only [Option.some.injEq] at h
            subst h
            obtain ⟨f1, f2⟩ := findNow_of hd1 hk hfind r1
            obtain ⟨f2a, f2b⟩ := f2 i rfl
            simp only [Nat.sub_zero] at f1 f2b
            have hlt : i < entries.size := by simpa using f2b
            have hfk : (Instr.findKey kt ck entries.toList).run P w = .ok (some (i, entries[i].val)) w := findKey_run (hdk w) (by rw [f1]; simp [hlt])
            have hr1 : VsRel Γ w ((es.eraseIdx i).map (·.1)) ((entries.eraseIdxIfInBounds i).toList.map (·.key)) := by
              rw [map_eraseIdx']
              have : (entries.eraseIdxIfInBounds i).toList = entries.toList.eraseIdx i := by simp [Array.eraseIdxIfInBounds, hlt]
              rw [this, map_eraseIdx']
              exact vsRel_erase r1 i
            have hr2 : VsRel Γ w ((es.eraseIdx i).map (·.2)) ((entries.eraseIdxIfInBounds i).toList.map (·.val)) := by
              rw [map_eraseIdx']
              have : (entries.eraseIdxIfInBounds i).toList = entries.toList.eraseIdx i := by simp [Array.eraseIdxIfInBounds, hlt]
              rw [this, map_eraseIdx']
              exact vsRel_erase r2 i
            refine ⟨.tuple #[], Γ, _, ?_, map_put_out (entries' := entries.eraseIdxIfInBounds i) (clock' := clock) e e2 hr1 hr2 (MapKept.stamped_erase r3 i) hS hL⟩
            simp only [Builtin.delete_, ht, ha0, ha1, Sem.run_bind, hd, Result.andThen_ok, ho, checkKey_plain (hdk w) hd2, hfk, run_setObj_map e2]
            rfl
          · rename_i hfind
            simp only [Option.some.injEq] at h
            subst h
            obtain ⟨f1, f2⟩ := findNow_of hd1 hk hfind r1
            have hfk := findKey_run (P := P) (hdk w) f1
            have hself : w.heap.setIfInBounds b (.map entries clock) = w.heap := by
              apply Array.ext_getElem?
              intro j
              by_cases hj : j = b
              · subst hj; rw [e2]; simp [lt_of_heap e2]
              · simp [Array.getElem?_setIfInBounds_ne (Ne.symm hj)]
            refine ⟨.tuple #[], Γ, w, ?_, .still hS hL (.tuple [] #[] rfl (by simp))⟩
            simp only [Builtin.delete_, ht, ha0, ha1, Sem.run_bind, hd, Result.andThen_ok, ho, checkKey_plain (hdk w) hd2, hfk, run_setObj_map e2, hself]
            rfl
          · simp at h
      · simp at h
    · simp at h
  · simp at h
end
end Go.Ax
