/-
  AE: rows that grow; rows made; texts gone through; copying nothing.
-/
import Derived.Test.YtlcfmdedkkmnmaaGreatDoorAxActs2
import Derived.Laws.Append
namespace Go.Ax
section
variable {P : Program} {E : Env} {Γ : Gh} {w : World} {fid : Nat} {dst : Option Tmp} {M : Mem}

theorem getD_lt (a : Array Value) (i : Nat) (h : i < a.size) : a.getD i undef = a[i] := by simp [Array.getD, h]
theorem get?_getD (a : Array Value) (i : Nat) (h : i < a.size) : a[i]? = some (a.getD i undef) := by rw [getD_lt a i h]; simp [h]

theorem rel_row {cells : List AV} {c : Nat → Value} (hr : ∀ i (h : i < cells.length), VRel Γ w cells[i] (c i)) : VsRel Γ w cells (fromTo c cells.length).toArray.toList := by simpa using vsRel_fromTo hr

theorem loadCells_same {u : World} (hu : u.heap = w.heap) {cells : List AV} {b o : Nat} {c : Nat → Value} (hc : ∀ i, i < cells.length → w.cell? ⟨b, o + i, none⟩ = some (c i)) (n : Nat) (hn : cells.length = n) :
    (loadCells ⟨b, o, none⟩ n).run P u = .ok (fromTo c n).toArray u :=
  cells_run (P := P) (w := u) (fun i hi => by simpa [World.cell?, hu] using hc i hi) n hn

/-- What is put behind a slice. -/
theorem added_rel {bytes : Bool} {x : AV} {n : Nat} {new : List AV} (h : addedParts bytes x = some (n, new)) {size : Nat} (hlen : new.length = n * size) (_ : bytes = true → size = 1) {cx : Value} (hr : VRel Γ w x cx) :
    ∃ arr : Array Value, (∀ u, (Builtin.lenOf cx).run P u = .ok n u) ∧ (∀ u : World, u.heap = w.heap → (Builtin.firstCells size n cx).run P u = .ok arr u) ∧ VsRel Γ w new arr.toList := by
  unfold addedParts at h
  split at h
  · simp only [Option.some.injEq, Prod.mk.injEq] at h
    obtain ⟨rfl, rfl⟩ := h
    cases hr
    exact ⟨#[], fun u => rfl, fun u _ => rfl, .nil⟩
  · simp only [Option.some.injEq, Prod.mk.injEq] at h
    obtain ⟨rfl, rfl⟩ := h
    cases hr with
    | slice _ _ _ b o cap c hle hc hr hi hp =>
      refine ⟨(fromTo c (_ * size)).toArray, fun u => rfl, fun u hu => loadCells_same hu hc _ hlen, ?_⟩
      rw [← hlen]; exact rel_row hr
  · rename_i s
    split at h
    · rename_i hby
      simp only [Option.some.injEq, Prod.mk.injEq] at h
      obtain ⟨rfl, rfl⟩ := h
      cases hr
      refine ⟨(s.extract 0 s.size).data.map (fun b => Value.int .u8 b.toNat), fun u => rfl, fun u _ => rfl, ?_⟩
      have e : (s.extract 0 s.size).data = s.data := by
        have : s.extract 0 s.size = s := by simp
        rw [this]
      rw [e]
      simp only [byteCells, Array.toList_map]
      exact .of_get (by simp) fun i h1 h2 => by simp; exact .int _ _
    · simp at h
  · simp at h

theorem append_head (hE : EnvOK P E) {t xt e : TypeId} {ti xi ei : TI} (hti : E.ti t = some ti) (hk : ti.kind = .slice e) (hei : E.ti e = some ei) (hxi : E.ti xt = some xi) (hxk : (∃ e, xi.kind = .slice e) ∨ xi.kind = .str) :
    (∀ u, (Go.underlying t).run P u = .ok (.slice e) u) ∧ (∀ u, (sizeOf e).run P u = .ok ei.size u) ∧ ∃ d, (∀ u, (Go.underlying xt).run P u = .ok d u) ∧ ((∃ e', d = .slice e') ∨ d = .string) := by
  obtain ⟨d, hd, hkd, _⟩ := (hE.ti t ti hti).underlying
  simp only [hk, KindOK] at hkd
  subst hkd
  obtain ⟨dx, hdx, hkx, _⟩ := (hE.ti xt xi hxi).underlying
  refine ⟨hd, (hE.ti e ei hei).size, dx, hdx, ?_⟩
  rcases hxk with ⟨e', h⟩ | h <;> simp only [h, KindOK] at hkx <;> subst hkx <;> simp

theorem append_none (hE : EnvOK P E) {t xt e : TypeId} {ti xi ei : TI} (hti : E.ti t = some ti) (hk : ti.kind = .slice e) (hei : E.ti e = some ei) (hxi : E.ti xt = some xi) (hxk : (∃ e, xi.kind = .slice e) ∨ xi.kind = .str)
    {ts : Array TypeId} (h0 : ts[0]? = some t) (h1 : ts[1]? = some xt) {as : Array Value} {cx : Value} {base : Option Addr} {len cap : Nat} (ha0 : as[0]? = some (.slice base len cap)) (ha1 : as[1]? = some cx) (hle : len ≤ cap) (ty : TypeId)
    {arr : Array Value} (hn : ∀ u, (Builtin.lenOf cx).run P u = .ok 0 u) (hf : (Builtin.firstCells ei.size 0 cx).run P w = .ok arr w) (harr : arr = #[]) :
    (Builtin.append_ ts ty as).run P w = .ok (.slice base len cap) w := by
  obtain ⟨hd, hs, dx, hdx, hne⟩ := append_head hE hti hk hei hxi hxk
  subst harr
  rcases hne with ⟨e', rfl⟩ | rfl <;> cases base <;> simp [Builtin.append_, h0, h1, ha0, ha1, hd, hs, hdx, hn, hf, hle, storeCells]

theorem append_room (hE : EnvOK P E) {t xt e : TypeId} {ti xi ei : TI} (hti : E.ti t = some ti) (hk : ti.kind = .slice e) (hei : E.ti e = some ei) (hxi : E.ti xt = some xi) (hxk : (∃ e, xi.kind = .slice e) ∨ xi.kind = .str)
    {ts : Array TypeId} (h0 : ts[0]? = some t) (h1 : ts[1]? = some xt) {as : Array Value} {cx : Value} {b o : Nat} {len cap n : Nat} (ha0 : as[0]? = some (.slice (some ⟨b, o, none⟩) len cap)) (ha1 : as[1]? = some cx) (hle : len + n ≤ cap) (ty : TypeId)
    {arr cur : Array Value} {ety : TypeId} (hn : ∀ u, (Builtin.lenOf cx).run P u = .ok n u) (hf : (Builtin.firstCells ei.size n cx).run P w = .ok arr w) (hb : w.heap[b]? = some (.cells cur ety (0, 0))) (hfit : o + len * ei.size + arr.size ≤ cur.size)
    (hone : ∀ v ∈ arr.toList, v.oneCell' = true) :
    (Builtin.append_ ts ty as).run P w = .ok (.slice (some ⟨b, o, none⟩) (len + n) cap) (w.setRow b (cur.toList.take (o + len * ei.size) ++ arr.toList ++ cur.toList.drop (o + len * ei.size + arr.toList.length)).toArray) := by
  obtain ⟨hd, hs, dx, hdx, hne⟩ := append_head hE hti hk hei hxi hxk
  have hst := run_storeCells_at P b (o + len * ei.size) ety arr.toList 0 cur w hb (by simpa using hfit) hone
  simp only [Nat.add_zero] at hst
  rcases hne with ⟨e', rfl⟩ | rfl <;> simp [Builtin.append_, h0, h1, ha0, ha1, hd, hs, hdx, hn, hf, hle, Addr.add_none, hst]

theorem append_grow (hE : EnvOK P E) {t xt e : TypeId} {ti xi ei : TI} (hti : E.ti t = some ti) (hk : ti.kind = .slice e) (hei : E.ti e = some ei) (hxi : E.ti xt = some xi) (hxk : (∃ e, xi.kind = .slice e) ∨ xi.kind = .str)
    {ts : Array TypeId} (h0 : ts[0]? = some t) (h1 : ts[1]? = some xt) {as : Array Value} {cx cs : Value} {base : Option Addr} {len cap n : Nat} (hcs : cs = .slice base len cap) (ha0 : as[0]? = some cs) (ha1 : as[1]? = some cx) (hgt : cap < len + n) (ty : TypeId)
    (hbytes : (len + n) * ei.bytes ≤ 2 ^ 46) (hbz : ei.bytes ≠ 0) {old new : Array Value} (hn : ∀ u, (Builtin.lenOf cx).run P u = .ok n u)
    (hf : ∀ u : World, u.heap = w.heap → (Builtin.firstCells ei.size n cx).run P u = .ok new u) (ho : ∀ u : World, u.heap = w.heap → (Builtin.firstCells ei.size len cs).run P u = .ok old u) :
    ∃ c rest, len + n ≤ c ∧ rest.size = (c - (len + n)) * ei.size ∧
      (Builtin.append_ ts ty as).run P w = .ok (.slice (some ⟨w.heap.size, 0, none⟩) (len + n) c) (w.drew.alloc (.cells (old ++ new ++ rest) e)) := by
  obtain ⟨hd, hs, dx, hdx, hne⟩ := append_head hE hti hk hei hxi hxk
  obtain ⟨i, hi1, hi2⟩ := (hE.ti e ei hei).bytes
  obtain ⟨z, hz1, _, hz3, _⟩ := (hE.ti e ei hei).zero (P := P) (Γ := Gh.none) (w := w)
  obtain ⟨c, hc⟩ : ∃ c, c = (Question.appendCap (len + n) cap e).cut (w.tape w.drawn (.appendCap (len + n) cap e)) := ⟨_, rfl⟩
  have hcge : len + n ≤ c := by rw [hc]; simp [Question.cut]
  have hnot : ¬ len + n ≤ cap := by omega
  have hcap : ¬ Builtin.nextslicecap (len + n) cap * i.bytes > 2 ^ 48 := by
    have h46 : (2 : Nat) ^ 46 = 70368744177664 := by decide
    have h48 : (2 : Nat) ^ 48 = 281474976710656 := by decide
    have := growslice_fits (bytes := ei.bytes) hgt (by omega)
    rw [hi2, h48]; omega
  have hov : ¬ (((len + n : Nat) : Int) > IntKind.i64.max ∧ (False ∨ i.bytes = 0)) := by
    rw [hi2]; simp [hbz]
  refine ⟨c, Builtin.zeroCells z.cells (c - (len + n)), hcge, by simp [Builtin.zeroCells, hz3], ?_⟩
  have hold := ho w.drew rfl
  have hnew := hf w.drew rfl
  subst hcs
  rcases hne with ⟨e', rfl⟩ | rfl
  all_goals
    simp only [Builtin.append_, h0, h1, ha0, ha1, Sem.run_bind, hd, Result.andThen_ok, hs, hdx, Sem.run_pure, Bool.false_eq_true, if_false, hn, if_neg hnot, hi1]
    rw [if_neg (by simpa using hov)]
    simp only [Sem.run_bind, Sem.run_pure, Result.andThen_ok, hi1, if_neg hcap, run_choose, Question.forced, Bool.false_eq_true, if_false, World.drew_eq, ← hc, run_askRoom, hold, hnew, Bool.not_false, if_true, hz1, newRow, run_newObj, World.alloc_eq, World.size_drew]

theorem appendA_ok (hE : EnvOK P E) {t xt : TypeId} {xi : TI} (hxi : E.ti xt = some xi) (hxk : (∃ e, xi.kind = .slice e) ∨ xi.kind = .str) {s x v : AV} {M' : Mem} (h : appendA E M t s x = some (v, M')) {ts : Array TypeId} (h0 : ts[0]? = some t) (h1 : ts[1]? = some xt)
    {as : Array Value} {cs cx : Value} (ha0 : as[0]? = some cs) (ha1 : as[1]? = some cx) (hs : VRel Γ w s cs) (hx : VRel Γ w x cx) (ty : TypeId) (hS : RepS E Γ M.sig w) (hL : RepL fid Γ M.locs w) :
    ActOK P E fid dst (Builtin.append_ ts ty as) Γ w M M' v := by
  unfold appendA at h
  split at h
  · rename_i sz by_ ze e hti
    split at h
    · rename_i ei hei
      have hT := hE.ti e ei hei
      split at h
      · rename_i p len cs0 n new hparts hadd
        split at h
        · simp at h
        · rename_i hlens
          simp only [not_or, ne_eq, Decidable.not_not, Bool.not_eq_false] at hlens
          obtain ⟨hlen0, hlenn, hones⟩ := hlens
          have hb1 : decide (ei.kind = .int .u8) = true → ei.size = 1 := by
            intro hk8
            simp only [decide_eq_true_eq] at hk8
            exact hT.one (by rw [hk8]; rfl)
          obtain ⟨new', hn1, hn2, hn3⟩ := added_rel (P := P) hadd hlenn hb1 hx
          have hnl := hn3.length
          split at h
          · rename_i hz
            subst hz
            simp only [Option.some.injEq, Prod.mk.injEq] at h
            obtain ⟨rfl, rfl⟩ := h
            have hnew0 : new' = #[] := by
              have : new = [] := List.eq_nil_of_length_eq_zero (by omega)
              subst this
              simp at hnl; exact Array.eq_empty_of_size_eq_zero (by simpa using hnl)
            rcases sliceParts_rel hparts hs with ⟨rfl, rfl, rfl, rfl, rfl⟩ | ⟨b, o, cap, c, rfl, rfl, hle, hrest⟩
            · exact ⟨_, Γ, w, append_none hE hti rfl hei hxi hxk h0 h1 ha0 ha1 (Nat.le_refl _) ty hn1 (hn2 w rfl) hnew0, .still hS hL hs⟩
            · exact ⟨_, Γ, w, append_none hE hti rfl hei hxi hxk h0 h1 ha0 ha1 hle ty hn1 (hn2 w rfl) hnew0, .still hS hL hs⟩
          · rename_i hnz
            split at h
            · simp at h
            · rename_i hsm
              simp only [not_or, Nat.not_lt] at hsm
              obtain ⟨hsm, hbz, hsz⟩ := hsm
              -- what stands behind growing into a new row
              have grow : ∀ (base : Option Addr) (cap g : Nat) (ng : Nat), cs = .slice base len cap → cap < len + n →
                  (∃ old : Array Value, (∀ u : World, u.heap = w.heap → (Builtin.firstCells ei.size len cs).run P u = .ok old u) ∧ VsRel Γ w cs0 old.toList) →
                  g < ng → M.sig.ngrp ≤ ng → (∀ m, (len + n) * ei.size ≤ m → Γ.tok g m = none) →
                  ActOK P E fid dst (Builtin.append_ ts ty as) Γ w M { M with sig := { M.sig with ngrp := ng, tops := M.sig.tops.set g ((len + n) * ei.size) } } (.slice (.opn g ei.size) (len + n) (cs0 ++ new)) := by
                intro base cap g ng hcs hgt hold hg hng hnone
                obtain ⟨old, ho1, ho2⟩ := hold
                obtain ⟨c, rest, hc1, hc2, hrun⟩ := append_grow hE hti rfl hei hxi hxk h0 h1 hcs ha0 ha1 hgt ty hsm hbz hn1 hn2 ho1
                have hgw := grew_drew w (.cells (old ++ new' ++ rest) e)
                obtain ⟨hx', hS'⟩ := hgw.tok (fid := fid) hS g ((len + n) * ei.size) ng hg hng hnone
                have hol := ho2.length
                have hlenall : (cs0 ++ new).length = (len + n) * ei.size := by rw [List.length_append, hlen0, hlenn, Nat.add_mul]
                have hsizes : (old ++ new').size = (len + n) * ei.size := by
                  have e1 : old.size = cs0.length := by simpa using hol
                  have e2 : new'.size = new.length := by simpa using hnl
                  rw [Array.size_append, e1, e2, hlen0, hlenn, Nat.add_mul]
                have hrel : VsRel Γ w (cs0 ++ new) (old ++ new').toList := by
                  rw [Array.toList_append]; exact ho2.append hn3
                refine ⟨_, _, _, hrun, hx', hS', hgw.repL hL hx' (fun _ _ => rfl), ?_, fun _ _ _ => rfl, fun _ _ _ => rfl, Nat.le_refl _⟩
                have hrel' := hrel.mono hx'
                refine .slice _ _ _ w.heap.size 0 c (fun i => (old ++ new' ++ rest).getD i undef) hc1 (fun i hi => ?_) (fun i hi => ?_) (fun _ => ?_) ⟨Nat.pos_of_ne_zero hsz, hlenall, by simp [Gh.addTok, hlenall], e, (old ++ new' ++ rest).size, ?_, ?_⟩
                · have hlt : i < (old ++ new' ++ rest).size := by rw [Array.size_append, hsizes]; omega
                  simp only [World.cell?, hgw.get_new, Nat.zero_add, Option.isSome_none, Bool.false_eq_true, if_false]
                  exact get?_getD _ _ hlt
                · have hlt' : i < (old ++ new').size := by omega
                  have := hrel'.get i hi (by simpa using hlt')
                  have hlt : i < (old ++ new' ++ rest).size := by rw [Array.size_append]; omega
                  rw [getD_lt _ _ hlt, Array.getElem_append_left hlt', ← Array.getElem_toList]
                  exact this
                · exact .inr ⟨_, some g, by simp [Gh.addTok, Gh.setKind]; rfl, by simp [hlenall]⟩
                · simp only [World.shape?, hgw.get_new]
                · rw [Array.size_append, hsizes, hc2, Nat.zero_add, ← Nat.add_mul]
                  exact Nat.mul_le_mul_right _ (by omega)
              have holdrow : ∀ {b o cap : Nat} {c : Nat → Value}, (∀ i, i < cs0.length → w.cell? ⟨b, o + i, none⟩ = some (c i)) → (∀ i (h : i < cs0.length), VRel Γ w cs0[i] (c i)) →
                  ∃ old : Array Value, (∀ u : World, u.heap = w.heap → (Builtin.firstCells ei.size len (.slice (some ⟨b, o, none⟩) len cap)).run P u = .ok old u) ∧ VsRel Γ w cs0 old.toList := by
                intro b o cap c hc hr
                exact ⟨_, fun u hu => loadCells_same hu hc _ hlen0, by rw [← hlen0]; exact rel_row hr⟩
              split at h
              · simp at h
              · simp only [Option.some.injEq, Prod.mk.injEq] at h
                obtain ⟨rfl, rfl⟩ := h
                have htn := hS.tokNew M.sig.ngrp (Nat.le_refl _)
                rcases sliceParts_rel hparts hs with ⟨rfl, rfl, _, rfl, rfl⟩ | ⟨b, o, cap, c, rfl, rfl, hle, hc, hr, hi, hp⟩
                · exact grow none 0 M.sig.ngrp (M.sig.ngrp + 1) rfl (by omega) ⟨#[], fun u _ => rfl, .nil⟩ (by omega) (by omega) (fun m _ => htn m)
                · have : cap = len := hp
                  subst this
                  exact grow _ cap M.sig.ngrp (M.sig.ngrp + 1) rfl (by omega) (holdrow hc hr) (by omega) (by omega) (fun m _ => htn m)
              · rename_i g sz'
                split at h
                · rename_i htop
                  obtain ⟨rfl, htop⟩ := htop
                  simp only [Option.some.injEq, Prod.mk.injEq] at h
                  obtain ⟨rfl, rfl⟩ := h
                  rcases sliceParts_rel hparts hs with ⟨rfl, rfl, e0, rfl, rfl⟩ | ⟨b, o, cap, c, rfl, rfl, hle, hc, hr, hi, hp⟩
                  · simp at e0
                  · obtain ⟨hp0, hp1, hp2, ety, m, hp3, hp4⟩ := hp
                    have hnew_lt : cs0.length < (len + n) * ei.size := by
                      rw [hlen0]; exact Nat.mul_lt_mul_of_pos_right (by omega) (Nat.pos_of_ne_zero hsz)
                    have hg : g < M.sig.ngrp := by
                      rcases Nat.lt_or_ge g M.sig.ngrp with h | h
                      · exact h
                      · rw [hS.tokNew g h] at hp2; simp at hp2
                    have htn := hS.tokTop g _ htop
                    by_cases hroom : len + n ≤ cap
                    · -- in its place
                      obtain ⟨hkind, cur, ety', hcur⟩ := hS.tok g _ b o htop hp2
                      have hshape : cur.size = m := by
                        simp only [World.shape?, hcur, Option.some.injEq, Prod.mk.injEq] at hp3
                        exact hp3.2
                      have enew : new'.size = n * ei.size := by have : new'.size = new.length := by simpa using hnl
                                                                rw [this, hlenn]
                      have hfit : o + len * ei.size + new'.size ≤ cur.size := by
                        rw [hshape, enew, Nat.add_assoc, ← Nat.add_mul]
                        exact Nat.le_trans (Nat.add_le_add_left (Nat.mul_le_mul_right _ hroom) o) hp4
                      have eold : o + cs0.length = o + len * ei.size := by rw [hlen0]
                      have hrun := append_room hE hti rfl hei hxi hxk h0 h1 ha0 ha1 hroom ty hn1 (hn2 w rfl) hcur hfit (ones_rel hn3 hones)
                      obtain ⟨cur', hcur'⟩ : ∃ a : Array Value, a = (cur.toList.take (o + len * ei.size) ++ new'.toList ++ cur.toList.drop (o + len * ei.size + new'.toList.length)).toArray := ⟨_, rfl⟩
                      rw [← hcur'] at hrun
                      have hput := setRow_put hcur cur'
                      have hsz' : cur'.size = cur.size := by rw [hcur']; simp; omega
                      have hlow : ∀ i, i < o + cs0.length → cur'[i]? = cur[i]? := by
                        intro i hi
                        rw [hcur', eold] at *
                        have : i < (cur.toList.take (o + len * ei.size)).length := by simp; omega
                        simp only [List.getElem?_toArray, List.append_assoc]
                        rw [List.getElem?_append_left this, List.getElem?_take, if_pos (by omega)]
                        simp
                      have hhigh : ∀ j, j < new'.size → cur'[o + cs0.length + j]? = new'[j]? := by
                        intro j hj
                        rw [hcur', eold]
                        have hl : (cur.toList.take (o + len * ei.size)).length = o + len * ei.size := by simp; omega
                        simp only [List.getElem?_toArray, List.append_assoc]
                        rw [List.getElem?_append_right (by omega), hl, List.getElem?_append_left (by simp; omega)]
                        simp
                      obtain ⟨hx', hS', hL'⟩ := hput.tok hcur hsz' hS hL g cs0.length ((len + n) * ei.size) o htop hp2 hnew_lt hlow
                      have hlenall : (cs0 ++ new).length = (len + n) * ei.size := by rw [List.length_append, hlen0, hlenn, Nat.add_mul]
                      refine ⟨_, _, _, hrun, hx', hS', hL', ?_, fun _ _ _ => rfl, fun _ _ _ => rfl, Nat.le_refl _⟩
                      have henew : new'.size = new.length := by simpa using hnl
                      refine .slice _ _ _ b o cap (fun i => cur'.getD (o + i) undef) hroom (fun i hi => ?_) (fun i hi => ?_) (fun _ => ?_) ⟨hp0, hlenall, by simp [Gh.addTok, hlenall], ety', cur'.size, ?_, ?_⟩
                      · have hlt : o + i < cur'.size := by
                          rw [List.length_append] at hi; rw [hsz']; omega
                        simp only [World.cell?, hput.get_same, Option.isSome_none, Bool.false_eq_true, if_false]
                        exact get?_getD _ _ hlt
                      · by_cases hic : i < cs0.length
                        · have h1 := hc i hic
                          have h2 := (hr i hic).mono hx'
                          have h3 := hlow (o + i) (by omega)
                          simp only [World.cell?, hcur, Option.isSome_none, Bool.false_eq_true, if_false] at h1
                          rw [h1] at h3
                          have h4 : cur'.getD (o + i) undef = c i := by
                            rw [Array.getD_eq_getD_getElem?, h3]; rfl
                          rw [h4, List.getElem_append_left hic]
                          exact h2
                        · have hi' : i < cs0.length + new.length := by rw [List.length_append] at hi; exact hi
                          have hj : i - cs0.length < new'.size := by omega
                          have h3 := hhigh (i - cs0.length) hj
                          have e1 : o + cs0.length + (i - cs0.length) = o + i := by omega
                          rw [e1] at h3
                          have h2 := (hn3.mono hx').get (i - cs0.length) (by omega) (by simpa using hj)
                          have h4 : cur'.getD (o + i) undef = new'[i - cs0.length] := by
                            rw [Array.getD_eq_getD_getElem?, h3, Array.getElem?_eq_getElem hj]; rfl
                          rw [h4, List.getElem_append_right (by omega)]
                          simpa using h2
                      · exact .inr ⟨_, some g, by simp [Gh.addTok, Gh.setKind]; rfl, by rw [hlenall]; exact Nat.le_refl _⟩
                      · simp only [World.shape?, hput.get_same]
                      · rw [hsz', hshape]; exact hp4
                    · have hx2 := grow _ cap g M.sig.ngrp rfl (by omega) (holdrow hc hr) hg (Nat.le_refl _) (fun m hm => htn m (by omega))
                      exact hx2
                · simp at h
      · simp at h
    · simp at h
  · simp at h
end
end Go.Ax
