/-
  AE: operations that look at memory, write into it, or make new of it.
-/
import Derived.Test.YtlcfmdedkkmnmaaGreatDoorAxBuild
import Derived.Laws.CopyRow
namespace Go.Ax
section
variable {P : Program} {E : Env} {Γ : Gh} {w : World} {fid : Nat}

/-- What lies where an address leads. -/
theorem readAt_rel {M : Mem} {p : AV} {cs : List AV} {off : Nat} (h : readAt E fid M p = some (cs, off)) {cp : Value} (hp : VRel Γ w p cp) (hS : RepS E Γ M.sig w) (hL : RepL fid Γ M.locs w) :
    ∃ b o, ∃ c : Nat → Value, cp = .pointer (some ⟨b, o + off, none⟩) ∧ (∀ i, i < cs.length → w.cell? ⟨b, o + i, none⟩ = some (c i)) ∧ ∀ i (h : i < cs.length), VRel Γ w cs[i] (c i) := by
  have ofObj : ∀ {b : Nat} {arr : Array Value} {e : TypeId} {frz : Nat × Nat}, w.heap[b]? = some (.cells arr e frz) → VsRel Γ w cs arr.toList →
      ∃ c : Nat → Value, (∀ i, i < cs.length → w.cell? ⟨b, 0 + i, none⟩ = some (c i)) ∧ ∀ i (h : i < cs.length), VRel Γ w cs[i] (c i) := by
    intro b arr e frz hb hr
    have hlen := hr.length
    refine ⟨fun i => arr.getD i undef, fun i hi => ?_, fun i hi => ?_⟩
    · simp at hlen
      have : i < arr.size := by omega
      simp [World.cell?, hb, Array.getD, this]
    · have h' : i < arr.toList.length := by omega
      have := hr.get i hi h'
      simp at h'
      simpa [Array.getD, h'] using this
  unfold readAt at h
  split at h
  · split at h
    · rename_i id off' cs' hget
      simp only [Option.some.injEq, Prod.mk.injEq] at h
      obtain ⟨rfl, rfl⟩ := h
      cases hp with
      | obj _ _ b e =>
        obtain ⟨_, o, ob, e1, e2, r⟩ := hS.obj _ b e
        rw [hget] at e1
        simp only [Option.some.injEq] at e1
        subst e1
        cases ob <;> simp only [ORel] at r
        obtain ⟨c, h1, h2⟩ := ofObj e2 r.2
        exact ⟨b, 0, c, by simp, h1, h2⟩
    · simp at h
  · split at h
    · split at h
      · rename_i hf _ g' cs' hget
        split at h
        · rename_i hg
          simp only [Option.some.injEq, Prod.mk.injEq] at h
          obtain ⟨rfl, rfl⟩ := h
          subst hf hg
          cases hp with
          | loc _ _ _ _ b e =>
            obtain ⟨ob, e2, r⟩ := hL.own _ _ _ b hget e
            cases ob <;> simp only [ORel] at r
            obtain ⟨c, h1, h2⟩ := ofObj e2 r.2
            exact ⟨b, 0, c, by simp, h1, h2⟩
        · simp at h
      · simp at h
    · simp at h
  · simp only [Option.some.injEq, Prod.mk.injEq] at h
    obtain ⟨rfl, rfl⟩ := h
    cases hp with
    | ro _ _ b o c hc hr hi => exact ⟨b, o, c, rfl, hc, hr⟩
  · split at h
    · rename_i g off' cs' hget
      simp only [Option.some.injEq, Prod.mk.injEq] at h
      obtain ⟨rfl, rfl⟩ := h
      cases hp
      obtain ⟨_, _, c, h1, h2⟩ := hS.glob _ _ hget
      exact ⟨_, 0, c, by simp; rfl, by simpa using h1, h2⟩
    · simp at h
  · simp at h

theorem loadA_ok (hE : EnvOK P E) {M : Mem} {t : TypeId} {p v : AV} (h : loadA E fid M t p = some v) {cp : Value} (hp : VRel Γ w p cp) (hS : RepS E Γ M.sig w) (hL : RepL fid Γ M.locs w) :
    ∃ a, cp = .pointer (some a) ∧ SemOK P (loadVar t a) Γ w v := by
  unfold loadA at h
  split at h
  · rename_i ti cs off hti hread
    have hT := hE.ti t ti hti
    obtain ⟨b, o, c, rfl, hc, hr⟩ := readAt_rel hread hp hS hL
    refine ⟨_, rfl, ?_⟩
    split at h
    · rename_i l hl
      unfold TI.ofCells at h
      cases hk : ti.kind.agg with
      | true =>
        simp only [hk, if_true] at h hl
        simp only [Option.some.injEq] at h
        subst h
        unfold cut at hl
        split at hl
        · rename_i hle
          simp only [Option.some.injEq] at hl
          obtain ⟨s1, s2, s3⟩ := sub_cells (Γ := Γ) (w := w) hc hr off ti.size hle
          have hrun := cells_run (P := P) s1 ti.size s3
          refine ⟨.agg (fromTo (fun i => c (off + i)) ti.size).toArray, ?_, ?_⟩
          · simp [loadVar, hT.isAgg, hk, hT.size, hrun]
          · subst hl
            have := vsRel_fromTo (Γ := Γ) (w := w) s2
            rw [s3] at this
            exact vrel_agg (by simpa using this)
        · simp at hl
      | false =>
        simp only [hk, Bool.false_eq_true, if_false] at h hl
        unfold cut at hl
        split at hl
        · rename_i hle
          simp only [Option.some.injEq] at hl
          split at h
          · rename_i x
            simp only [Option.some.injEq] at h
            subst h
            have h1 : cs[off] = x := by
              have : ((cs.drop off).take 1)[0]? = some x := by rw [hl]; rfl
              simp at this
              rw [List.getElem?_eq_getElem (by omega)] at this
              simpa using this
            have h2 := hc off (by omega)
            have h3 := hr off (by omega)
            rw [h1] at h3
            exact ⟨c off, by simp [loadVar, hT.isAgg, hk, h2], h3⟩
          · simp at h
        · simp at hl
    · simp at h
  · simp at h

theorem keyKind_ok {k : TK} {x : AV} (h : keyKind k x = true) {d : TypeDesc} (hk : KindOK k d) {cx : Value} (hx : VRel Γ w x cx) :
    (∃ i n, k = .int i ∧ d = .int i ∧ x = .int i n ∧ cx = .int i n) ∨ (∃ s, k = .str ∧ d = .string ∧ x = .str s ∧ cx = .string s) := by
  unfold keyKind at h
  split at h
  · rename_i i l n
    simp only [decide_eq_true_eq] at h
    subst h
    cases hx
    exact .inl ⟨i, n, rfl, hk, rfl, rfl⟩
  · rename_i s
    cases hx
    exact .inr ⟨s, rfl, hk, rfl, rfl⟩
  · simp at h

theorem sameNow_of {d : TypeDesc} {k x : AV} {ck cx : Value} {r : Bool} (h : scalarEq k x = some r) (hd : (∃ i n, d = .int i ∧ k = .int i n) ∨ (∃ s, d = .string ∧ k = .str s)) (hk : VRel Γ w k ck) (hx : VRel Γ w x cx) :
    Instr.sameNow d ck cx = some r := by
  unfold scalarEq at h
  rcases hd with ⟨i, n, rfl, rfl⟩ | ⟨s, rfl, rfl⟩
  · cases x <;> simp only [reduceCtorEq] at h
    cases hk; cases hx
    split at h
    · rename_i e
      simp only [Option.some.injEq] at h
      subst h e
      simp [Instr.sameNow]
    · simp at h
  · cases x <;> simp only [reduceCtorEq, Option.some.injEq] at h
    subst h
    cases hk; cases hx
    simp [Instr.sameNow]

theorem findNow_of {d : TypeDesc} {k : AV} {ck : Value} (hd : (∃ i n, d = .int i ∧ k = .int i n) ∨ (∃ s, d = .string ∧ k = .str s)) (hk : VRel Γ w k ck) :
    ∀ {es : List (AV × AV)} {cs : List MapEntry} {i : Nat} {r : Option Nat}, findA k es i = some r → VsRel Γ w (es.map (·.1)) (cs.map (·.key)) →
      Instr.findNow d ck cs i = some (match r with
        | none => none
        | some j => (cs[j - i]?).map fun e => (j, e.val)) ∧ ∀ j, r = some j → i ≤ j ∧ j - i < cs.length
  | [], [], i, r, h, _ => by simp only [findA, Option.some.injEq] at h; subst h; simp [Instr.findNow]
  | [], _ :: _, i, r, h, hr => by cases hr
  | _ :: _, [], i, r, h, hr => by cases hr
  | e :: es, c :: cs, i, r, h, hr => by
    simp only [List.map_cons] at hr
    cases hr with
    | cons h1 h2 =>
      simp only [findA] at h
      split at h
      · rename_i hs
        simp only [Option.some.injEq] at h
        subst h
        simp [Instr.findNow, sameNow_of hs hd hk h1]
      · rename_i hs
        obtain ⟨e1, e2⟩ := findNow_of hd hk h h2
        simp only [Instr.findNow, sameNow_of hs hd hk h1, e1]
        cases r with
        | none => simp
        | some j =>
          obtain ⟨e3, e4⟩ := e2 j rfl
          have : j - i = (j - (i + 1)) + 1 := by omega
          refine ⟨by simp [this], fun j' hj' => ?_⟩
          simp only [Option.some.injEq] at hj'
          subst hj'
          simp; omega
      · simp at h

theorem checkKey_plain {d : TypeDesc} {t : TypeId} (hd : (Go.underlying t).run P w = .ok d w) (h : (∃ i, d = .int i) ∨ d = .string) (b : Bool) (c : Value) : (Instr.checkKey b 10000 t c).run P w = .ok () w := by
  unfold Instr.checkKey
  rcases h with ⟨i, rfl⟩ | rfl <;> simp [hd]

theorem findKey_run {d : TypeDesc} {t : TypeId} (hd : (Go.underlying t).run P w = .ok d w) {c : Value} {cs : List MapEntry} {r : Option (Nat × Value)} (h : Instr.findNow d c cs 0 = some r) : (Instr.findKey t c cs).run P w = .ok r w := by
  simp [Instr.findKey, hd, h]

theorem entries_rel {M : Mem} {m : AV} {es : List (AV × AV)} (h : entriesOf M m = some es) {cm : Value} (hm : VRel Γ w m cm) (hS : RepS E Γ M.sig w) :
    (m = .nilm ∧ cm = .map none ∧ es = []) ∨ (∃ b clock, m = .emap ∧ cm = .map (some b) ∧ w.heap[b]? = some (.map #[] clock) ∧ es = []) ∨ ∃ id b entries clock, m = .map id ∧ cm = .map (some b) ∧ Γ.obj id = some b ∧ M.sig.objs.get id = some (.amap es) ∧ w.heap[b]? = some (.map entries clock) ∧
      VsRel Γ w (es.map (·.1)) (entries.toList.map (·.key)) ∧ VsRel Γ w (es.map (·.2)) (entries.toList.map (·.val)) := by
  unfold entriesOf at h
  split at h
  · simp only [Option.some.injEq] at h
    subst h
    cases hm
    exact .inl ⟨rfl, rfl, rfl⟩
  · simp only [Option.some.injEq] at h
    subst h
    cases hm with
    | emap b clock h1 h2 => exact .inr (.inl ⟨b, clock, rfl, rfl, h2, rfl⟩)
  · split at h
    · rename_i id es' hget
      simp only [Option.some.injEq] at h
      subst h
      cases hm with
      | map _ b e =>
        obtain ⟨_, o, ob, e1, e2, r⟩ := hS.obj _ b e
        rw [hget] at e1
        simp only [Option.some.injEq] at e1
        subst e1
        cases ob <;> simp only [ORel] at r
        rename_i entries clock
        exact .inr (.inr ⟨_, b, entries, clock, rfl, rfl, e, hget, e2, r.1, r.2.1⟩)
    · simp at h
  · simp at h

theorem run_getObj_map {b : Nat} {entries : Array MapEntry} {clock : Nat} (h : w.heap[b]? = some (.map entries clock)) : (getObj b).run P w = .ok (.map entries clock) w := by
  simp only [getObj, Sem.run, h]

theorem lookupA_ok (hE : EnvOK P E) {M : Mem} {t : TypeId} {m k v : AV} {ok : Bool} (h : lookupA E M t m k ok = some v) {cm ck : Value} (hm : VRel Γ w m cm) (hk : VRel Γ w k ck) (hS : RepS E Γ M.sig w) :
    SemOK P (Instr.lookup t cm ck ok) Γ w v := by
  unfold lookupA at h
  split at h
  · rename_i sz by_ ze kt et es hti hes
    obtain ⟨d, hd, hkd, _⟩ := (hE.ti t _ hti).underlying
    simp only [KindOK] at hkd
    subst hkd
    split at h
    · rename_i ki ei hki hei
      obtain ⟨dk, hdk, hkk, _⟩ := (hE.ti kt ki hki).underlying
      split at h
      · rename_i hkey
        have hcase := keyKind_ok hkey hkk hk
        have hd1 : (∃ i n, dk = .int i ∧ k = .int i n) ∨ (∃ s, dk = .string ∧ k = .str s) := by
          rcases hcase with ⟨i, n, _, h1, h2, _⟩ | ⟨s, _, h1, h2, _⟩
          · exact .inl ⟨i, n, h1, h2⟩
          · exact .inr ⟨s, h1, h2⟩
        have hd2 : (∃ i, dk = .int i) ∨ dk = .string := by
          rcases hd1 with ⟨i, n, h1, _⟩ | ⟨s, h1, _⟩
          · exact .inl ⟨i, h1⟩
          · exact .inr h1
        obtain ⟨z, hz1, _, _, hz2⟩ := (hE.ti et ei hei).zero (P := P) (Γ := Γ) (w := w)
        have hmain : ∃ cs : Array MapEntry, VsRel Γ w (es.map (·.1)) (cs.toList.map (·.key)) ∧ VsRel Γ w (es.map (·.2)) (cs.toList.map (·.val)) ∧
            ∀ r, Instr.findNow dk ck cs.toList 0 = some r → (Instr.lookup t cm ck ok).run P w = .ok (match r with
              | some (_, v) => if ok then .tuple #[v, .bool true] else v
              | none => if ok then .tuple #[z, .bool false] else z) w := by
          rcases entries_rel hes hm hS with ⟨rfl, rfl, rfl⟩ | ⟨b, clock, rfl, rfl, e3, rfl⟩ | ⟨id, b, entries, clock, rfl, rfl, e1, e2, e3, r1, r2⟩
          · refine ⟨#[], .nil, .nil, fun r hr => ?_⟩
            simp only [Instr.findNow, Option.some.injEq] at hr
            subst hr
            have hf : (Instr.findKey kt ck (#[] : Array MapEntry).toList).run P w = .ok none w := findKey_run (hdk w) rfl
            simp [Instr.lookup, hd, checkKey_plain (hdk w) hd2, hf, hz1]
          · refine ⟨#[], .nil, .nil, fun r hr => ?_⟩
            simp only [Instr.findNow, Option.some.injEq] at hr
            subst hr
            have hf : (Instr.findKey kt ck (#[] : Array MapEntry).toList).run P w = .ok none w := findKey_run (hdk w) rfl
            have ho := run_getObj_map (P := P) e3
            simp [Instr.lookup, hd, ho, checkKey_plain (hdk w) hd2, hf, hz1]
          · refine ⟨entries, r1, r2, fun r hr => ?_⟩
            have hf := findKey_run (P := P) (hdk w) hr
            have ho := run_getObj_map (P := P) e3
            cases r with
            | none => simp [Instr.lookup, hd, ho, checkKey_plain (hdk w) hd2, hf, hz1]
            | some x => simp [Instr.lookup, hd, ho, checkKey_plain (hdk w) hd2, hf]
        obtain ⟨cs, r1, r2, hrun⟩ := hmain
        split at h
        · rename_i i hfind
          obtain ⟨f1, f2⟩ := findNow_of hd1 hk hfind r1
          split at h
          · rename_i e he
            simp only [Option.some.injEq] at h
            subst h
            have he2 : (es.map (·.2))[i]? = some e.2 := by simp [he]
            obtain ⟨c, hc1, hc2⟩ := r2.getElem? he2
            rw [List.getElem?_map] at hc1
            cases hce : cs.toList[i]? with
            | none => simp [hce] at hc1
            | some me =>
              simp only [hce, Option.map_some, Option.some.injEq] at hc1
              subst hc1
              simp only [Nat.sub_zero, hce, Option.map_some] at f1
              have hr := hrun _ f1
              refine ⟨_, hr, ?_⟩
              simp only []
              split
              · exact vrel_tuple (.cons hc2 (.cons (.bool _) .nil))
              · exact hc2
          · simp at h
        · rename_i hfind
          obtain ⟨f1, f2⟩ := findNow_of hd1 hk hfind r1
          split at h
          · rename_i z' hz'
            simp only [Option.some.injEq] at h
            subst h
            have hr := hrun _ f1
            refine ⟨_, hr, ?_⟩
            simp only []
            split
            · exact vrel_tuple (.cons (hz2 _ hz') (.cons (.bool _) .nil))
            · exact hz2 _ hz'
          · simp at h
        · simp at h
      · simp at h
    · simp at h
  · simp at h
end
end Go.Ax
