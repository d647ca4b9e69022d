/-
  AE at this seat: disk.List is as said.
-/
import Derived.Test.YtlcfmdedkkmnmaaGreatDoorAxList
import Derived.Test.YtlcfmdedkkmnmaaGreatDoorAxUsed2
import Derived.StringKeys
namespace Go.Ax.Seat
open Go Go.Proofs Go.RowKit Go.Maps Go.Sort Go.Shelf
section
variable {E : Env} {Γ : Gh} {σ : Sig} {w : World}

theorem insB_perm (x : List UInt8) : ∀ l, (insB x l).Perm (x :: l)
  | [] => .refl _
  | y :: r => by
    unfold insB
    split
    · exact .refl _
    · exact ((insB_perm x r).cons y).trans (.swap x y r)

theorem sortB_perm : ∀ l, (sortB l).Perm l
  | [] => .refl _
  | x :: l => (insB_perm x (sortB l)).trans ((sortB_perm l).cons x)

theorem le_total' (a b : List UInt8) : a ≤ b ∨ b ≤ a := List.le_total a b
theorem le_trans' {a b c : List UInt8} (h : a ≤ b) (h' : b ≤ c) : a ≤ c := List.le_trans h h'
theorem le_antisymm' {a b : List UInt8} (h : a ≤ b) (h' : b ≤ a) : a = b := List.le_antisymm h h'

theorem insB_sorted (x : List UInt8) : ∀ l : List (List UInt8), l.Pairwise (· ≤ ·) → (insB x l).Pairwise (· ≤ ·)
  | [], _ => by simp [insB]
  | y :: r, h => by
    unfold insB
    have h' := List.pairwise_cons.1 h
    split
    · rename_i hxy
      have hxy := of_decide_eq_true hxy
      exact List.pairwise_cons.2 ⟨fun z hz => by
        rcases List.mem_cons.1 hz with rfl | hz
        · exact hxy
        · exact le_trans' hxy (h'.1 z hz), h⟩
    · rename_i hxy
      have hyx : y ≤ x := by
        rcases le_total' x y with h1 | h1
        · exact absurd (decide_eq_true h1) hxy
        · exact h1
      refine List.pairwise_cons.2 ⟨fun z hz => ?_, insB_sorted x r h'.2⟩
      rcases List.mem_cons.1 ((insB_perm x r).mem_iff.1 hz) with rfl | hz
      · exact hyx
      · exact h'.1 z hz

theorem sortB_sorted : ∀ l, (sortB l).Pairwise (· ≤ ·)
  | [] => .nil
  | x :: l => insB_sorted x _ (sortB_sorted l)

theorem mergeSort_eq {ss ks : List (List UInt8)} (h : ss.Perm ks) : ss.mergeSort (fun x y => decide (x ≤ y)) = sortB ks := by
  have p : (ss.mergeSort (fun x y => decide (x ≤ y))).Perm (sortB ks) := (List.mergeSort_perm ss _).trans (h.trans (sortB_perm ks).symm)
  have s := List.pairwise_mergeSort (le := fun x y : List UInt8 => decide (x ≤ y)) (fun a b c h1 h2 => decide_eq_true (le_trans' (of_decide_eq_true h1) (of_decide_eq_true h2))) (fun a b => by
    rcases le_total' a b with h | h
    · simp [h]
    · simp [h]) ss
  refine p.eq_of_pairwise (le := fun x y => x ≤ y) (fun a b _ _ h1 h2 => le_antisymm' h1 h2) (s.imp fun h => of_decide_eq_true h) (sortB_sorted ks)

/-- The names of the entries. -/
theorem keysB_rel : ∀ {es : List (AV × AV)} {ents : List MapEntry} {ks : List (List UInt8)}, keysB es = some ks → VsRel Γ w (es.map (·.1)) (ents.map (·.key)) →
    ents.length = ks.length ∧ (∀ x ∈ ents, ∃ s : ByteArray, x.key = .string s ∧ s.size ≤ 2 ^ 40) ∧ ents.map (fun x => match x.key with | .string s => s.data.toList | _ => []) = ks
  | [], ents, ks, h, hr => by
    cases ents with
    | nil =>
      simp only [keysB, Option.some.injEq] at h
      subst h
      simp
    | cons a b => cases hr
  | (k, v) :: es, ents, ks, h, hr => by
    cases ents with
    | nil => cases hr
    | cons x ents =>
      cases hr with
      | cons h1 r1 =>
        unfold keysB at h
        split at h
        · rename_i heq; simp at heq
        · rename_i s v' r heq
          simp only [List.cons.injEq, Prod.mk.injEq] at heq
          obtain ⟨⟨rfl, rfl⟩, rfl⟩ := heq
          split at h
          · rename_i l hl
            split at h
            · rename_i hs
              simp only [Option.some.injEq] at h
              subst h
              obtain ⟨i1, i2, i3⟩ := keysB_rel hl r1
              have hk := vrel_str_inv h1
              refine ⟨by simp [i1], fun y hy => ?_, ?_⟩
              · rcases List.mem_cons.1 hy with rfl | hy
                · exact ⟨s, hk, hs⟩
                · exact i2 y hy
              · simp only [List.map_cons, i3, hk]
            · simp at h
          · simp at h
        · simp at h

theorem enterList : Enterable Tryz.prog 48 := ⟨Tryz.f48, Tryz.func48, by kernel_rfl, by kernel_rfl⟩

set_option maxRecDepth 1000000 in
theorem list_nil (w : World) : Calls Tryz.prog 48 #[.pointer none] w fun e w' => e = .returned (.slice none 0 0) ∧ w' = w := by
  go_enter Tryz.func48, Tryz.ntmps48
  go_wp2
  all_goals go_ret
  all_goals exact ⟨rfl, rfl⟩

theorem list_rel {id m : Nat} {x : AV} {rest : List AV} {es : List (AV × AV)} {ks : List (List UInt8)} (hS : RepS E Γ σ w) (hget : σ.objs.get id = some (.cells (x :: .map m :: rest))) (hgm : σ.objs.get m = some (.amap es)) (hks : keysB es = some ks) (hlen : ks.length < 2 ^ 40) {b : Nat} (e : Γ.obj id = some b) :
    Calls Tryz.prog 48 #[.pointer (some ⟨b, 0, none⟩)] w fun e w' => ∃ cv, e = .returned cv ∧ Over w w' ∧ VRel Γ w' (if ks = [] then .nils else .slice .no ks.length ((sortB ks).map fun l => .str ⟨l.toArray⟩)) cv := by
  obtain ⟨_, o, ob, e1, e2, ro⟩ := hS.obj id b e
  rw [hget] at e1
  simp only [Option.some.injEq] at e1
  subst e1
  cases ob <;> simp only [ORel] at ro
  rename_i arr et frz
  obtain ⟨rfl, ro⟩ := ro
  obtain ⟨cm, hm1, hm2⟩ := ro.getElem? (i := 1) (v := .map m) rfl
  cases hm2 with
  | map _ bm em =>
    obtain ⟨_, o', ob', f1, f2, ro'⟩ := hS.obj m bm em
    rw [hgm] at f1
    simp only [Option.some.injEq] at f1
    subst f1
    cases ob' <;> simp only [ORel] at ro'
    rename_i entries clock
    obtain ⟨r1, r2, r3⟩ := ro'
    obtain ⟨k1, k2, k3⟩ := keysB_rel hks r1
    simp only [Array.length_toList] at k1
    have hrd : ∀ y ∈ entries.toList, ∃ s : ByteArray, y.key = .string s ∧ WideElems.rd Tryz.prog 9 (fun _ => some ((.nil : DataW Unit), [])) y = some (.string s.data.toList, .nil) := by
      intro y hy
      obtain ⟨s, h1, h2⟩ := k2 y hy
      refine ⟨s, h1, ?_⟩
      have hkey := WideMaps.keyOf_string_mk Tryz.underlying9 (s := s) (Nat.le_trans h2 (by decide))
      simp [WideElems.rd, h1, hkey]
    have hown : w.ownsMap (H := Unit) Tryz.prog 9 (fun _ => some (.nil, [])) bm entries.size (.map ((entries.toList.map (WideElems.rg Tryz.prog 9 (fun _ => some (.nil, [])))).foldr DataW.insert [])) :=
      ⟨entries, clock, f2, ⟨by rw [k1]; exact Nat.le_trans (Nat.le_of_lt hlen) (by decide), r3, fun y hy => let ⟨s, _, h⟩ := hrd y hy; ⟨_, h⟩⟩, Nat.le_refl _, rfl⟩
    have hperm : (strKeys (DataW.map (H := Unit) ((entries.toList.map (WideElems.rg Tryz.prog 9 (fun _ => some (.nil, [])))).foldr DataW.insert []))).Perm ks := by
      unfold strKeys
      refine ((WideShapes.sorted_perm _).map _).trans ?_
      rw [List.map_map]
      rw [← k3]
      refine List.Perm.of_eq (List.map_congr_left fun y hy => ?_)
      obtain ⟨s, h1, h2⟩ := hrd y hy
      simp [WideElems.rg, h2, h1, strOf]
    refine (list_walk b bm entries clock w (by simp only [World.cell?, e2]; simpa using hm1) hown (by rw [k1]; exact hlen)).mono ?_
    rintro e' w' ⟨v, ss, rfl, hss, hrow, hnil, hbel⟩
    have hsk := hss.trans hperm
    have hal : (w.alloc (.cells #[.map (some bm)] 113)).heap.size = w.heap.size + 1 := by
      show (w.heap.push _).size = _
      simp
    have ho : Over w w' := by
      refine ⟨fun k hk => ?_, ?_, hbel.os, hbel.output⟩
      · rw [hbel.block k (by rw [hal]; omega), heap_alloc_old w _ hk]
      · have := hbel.size; rw [hal] at this; omega
    refine ⟨v, rfl, ho, ?_⟩
    by_cases h0 : ks = []
    · rw [if_pos h0]
      subst h0
      have : ss = [] := List.Perm.eq_nil hsk
      rw [hnil.2 this]
      exact .nils
    · rw [if_neg h0]
      have hne : ss ≠ [] := fun h => h0 (by subst h; exact (List.Perm.eq_nil hsk.symm))
      rw [mergeSort_eq hsk] at hrow
      obtain ⟨hx1, hx2⟩ := hrow
      rcases hx2 with ⟨hv, _⟩ | ⟨g, cap, cur, rfl, hg, hheap, hcap, _, hcsz, htake⟩
      · exact absurd (hnil.1 hv) hne
      · have hlen2 : ss.length = ks.length := hsk.length_eq
        have hsl : (sortB ks).length = ks.length := (sortB_perm ks).length_eq
        have hcellof : ∀ i (h : i < ks.length), w'.cell? ⟨g, 0 + i, none⟩ = some (encStr ((sortB ks)[i]'(by omega))) := by
          intro i hi
          have h1 : (cur.toList.take (ss.length * 1))[i]? = some (encStr ((sortB ks)[i]'(by omega))) := by
            rw [htake]
            simp [show i < (sortB ks).length by omega]
          rw [List.getElem?_take] at h1
          split at h1
          · simp only [World.cell?, hheap, Nat.zero_add]
            simpa using h1
          · simp at h1
        rw [hlen2]
        refine .slice .no ks.length _ g 0 cap (fun i => encStr ((sortB ks).getD i [])) (by rw [← hlen2]; exact hcap) (fun i hi => ?_) (fun i hi => ?_) (fun _ => .inl (hS.fresh g ?_)) trivial
        · simp only [List.length_map, hsl] at hi
          rw [hcellof i hi]
          simp [show i < (sortB ks).length by omega]
        · simp only [List.length_map] at hi
          simp only [List.getElem_map]
          rw [show (sortB ks).getD i [] = (sortB ks)[i] by simp [hi]]
          exact .str _
        · rw [hal] at hg; omega

theorem list_ok : CallOK Tryz.prog E fun g args σ => if g = 48 then listA args σ else none := by
  intro g args σ v σ' h
  simp only at h
  split at h
  · rename_i hg
    subst hg
    refine ⟨enterList, fun Γ w cargs hS ha => ?_⟩
    obtain ⟨cl⟩ := cargs
    unfold listA at h
    split at h
    · simp only [Option.some.injEq, Prod.mk.injEq] at h
      obtain ⟨rfl, rfl⟩ := h
      cases ha with
      | cons h1 r =>
        cases r
        cases h1
        refine (list_nil w).mono ?_
        rintro e w' ⟨rfl, rfl⟩
        exact ⟨_, Γ, rfl, .refl _ _ _, hS, .nils, Nat.le_refl _⟩
    · rename_i id
      split at h
      · rename_i x m rest hget
        split at h
        · rename_i es hgm
          cases ha with
          | cons h1 r =>
            cases r
            cases h1 with
            | obj _ _ b e =>
              split at h
              · rename_i hks
                simp only [Option.some.injEq, Prod.mk.injEq] at h
                obtain ⟨rfl, rfl⟩ := h
                refine (list_rel hS hget hgm hks (by decide) e).mono ?_
                rintro e' w' ⟨cv, rfl, ho, hv⟩
                exact ⟨cv, Γ, rfl, ho.ext hS, hS.over ho, by simpa using hv, Nat.le_refl _⟩
              · rename_i ks hne hks
                split at h
                · rename_i hlt
                  simp only [Option.some.injEq, Prod.mk.injEq] at h
                  obtain ⟨rfl, rfl⟩ := h
                  refine (list_rel hS hget hgm hks hlt e).mono ?_
                  rintro e' w' ⟨cv, rfl, ho, hv⟩
                  have hne' : ks ≠ [] := fun h => by subst h; exact absurd hks (by simp at hne)
                  rw [if_neg hne'] at hv
                  exact ⟨cv, Γ, rfl, ho.ext hS, hS.over ho, hv, Nat.le_refl _⟩
                · simp at h
              · simp at h
        · simp at h
      · simp at h
    · simp at h
  · simp at h
end
end Go.Ax.Seat
