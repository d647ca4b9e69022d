/-
  AE at this seat: slices.Sorted over the keys, uint32s, of a map that holds nothing.
-/
import Derived.Test.YtlcfmdedkkmnmaaGreatDoorAxNoneI
import Derived.Test.YtlcfmdedkkmnmaaGreatDoorAxBase
namespace Go.Ax.Seat
open Go Go.Proofs Go.RowKit Go.Shelf

set_option maxRecDepth 100000 in
set_option maxHeartbeats 2000000 in
theorem none_collect (g : Nat) (hg : GivesNone g) (n : Nat) (hn : 3 ≤ n) (Bm bm clock : Nat) (w : World) (hm : w.cell? ⟨Bm, 0, none⟩ = some (.map (some bm))) (hb : w.heap[bm]? = some (.map #[] clock)) :
    CallsIn Fence.wide n Tryz.prog 193 #[.func (.func g) #[] #[.pointer (some ⟨Bm, 0, none⟩)]] w fun e w' => e = .returned (.slice none 0 0) ∧ Below w.heap.size w w' := by
  refine callsIn_of_wp Tryz.func193 rfl trivial ?_ rfl
  have h1 : 1 ≤ n := by omega
  have hf : Fence.wide.fn 240 := trivial
  simp only [Tryz.ntmps193, List.size_toArray, List.length_cons, List.length_nil, Nat.reduceAdd, Nat.reduceSub, Array.replicate_succ, Array.replicate_zero, List.push_toArray, List.append_toArray, List.nil_append, List.cons_append]
  gi_wp2_with (gi_at_call 240; refine (none_append g hg (n - 1) (by omega) Bm bm clock _ hm hb).mono ?_; rintro e w' ⟨rfl, hbel⟩)
  go_ret
  exact ⟨rfl, hbel⟩

theorem sort_nil_run : ∃ σ', call EB 40 194 [.nils] {} = some (.tuple [], σ') := by
  have h : (call EB 40 194 [.nils] {}).map (·.1) = some (.tuple []) := by kernel_rfl
  cases hc : call EB 40 194 [.nils] {} with
  | none => rw [hc] at h; cases h
  | some x =>
    obtain ⟨v, σ'⟩ := x
    rw [hc] at h
    obtain rfl : v = .tuple [] := Option.some.inj h
    exact ⟨σ', rfl⟩
theorem sort_nil (w : World) : Calls Tryz.prog 194 #[.slice none 0 0] w fun e w' => e = .returned (.tuple #[]) ∧ Over w w' := by
  obtain ⟨σ', h⟩ := sort_nil_run
  refine (closed_calls h w (cargs := #[.slice none 0 0]) (.cons .nils .nil)).mono ?_
  rintro e w' ⟨cv, Γ', rfl, ho, hv⟩
  obtain ⟨cs, rfl, hr⟩ := hv.tuple_inv
  obtain ⟨l⟩ := cs
  cases hr
  exact ⟨rfl, ho⟩

theorem below_over {w w' : World} (h : Below w.heap.size w w') : Over w w' := ⟨fun k hk => h.block k hk, h.size, h.os, h.output⟩

set_option maxRecDepth 1000000 in
theorem none_sorted (g : Nat) (hg : GivesNone g) (Bm bm clock : Nat) (w : World) (hm : w.cell? ⟨Bm, 0, none⟩ = some (.map (some bm))) (hb : w.heap[bm]? = some (.map #[] clock)) :
    Calls Tryz.prog 144 #[.func (.func g) #[] #[.pointer (some ⟨Bm, 0, none⟩)]] w fun e w' => e = .returned (.slice none 0 0) ∧ Over w w' := by
  go_enter Tryz.func144, Tryz.ntmps144
  go_wp2_with (first
    | (go_at_call 193; refine (callsIn_wide.1 (none_collect g hg 3 (Nat.le_refl _) Bm bm clock w hm hb)).mono ?_; rintro e w1 ⟨rfl, hbel⟩)
    | (go_at_call 194; refine (sort_nil _).mono ?_; rintro e w2 ⟨rfl, ho⟩))
  all_goals go_ret
  all_goals exact ⟨rfl, over_trans (below_over hbel) ho⟩

def noneA (gs : List Nat) : List AV → Sig → Option (AV × Sig)
  | [.func g [] [.obj b 0]], σ => if gs.contains g then match σ.objs.get b with
    | some (.cells [.map m]) => match σ.objs.get m with
      | some (.amap []) => some (.nils, σ)
      | _ => none
    | _ => none else none
  | _, _ => none

theorem enterSO : Enterable Tryz.prog 144 := ⟨Tryz.f144, Tryz.func144, by kernel_rfl, by kernel_rfl⟩

theorem none_ok {E : Env} {gs : List Nat} (hgs : ∀ g ∈ gs, GivesNone g) : CallOK Tryz.prog E fun g args σ => if g = 144 then noneA gs args σ else none := by
  intro g args σ v σ' h
  simp only at h
  split at h
  · rename_i hg
    subst hg
    refine ⟨enterSO, fun Γ w cargs hS ha => ?_⟩
    obtain ⟨cl⟩ := cargs
    unfold noneA at h
    split at h
    · rename_i g b
      split at h
      · rename_i hc
        have hgn := hgs g (by simpa using hc)
        split at h
        · rename_i m hget
          split at h
          · rename_i hgm
            simp only [Option.some.injEq, Prod.mk.injEq] at h
            obtain ⟨rfl, rfl⟩ := h
            cases ha with
            | cons h1 r =>
              cases r
              obtain ⟨fs, cs, rfl, hf, hcs⟩ := h1.func_inv
              obtain ⟨fl⟩ := fs
              obtain ⟨cl⟩ := cs
              cases hf
              cases hcs with
              | cons h2 r2 =>
                cases r2
                cases h2 with
                | obj _ _ B e =>
                  obtain ⟨_, o, ob, e1, e2, ro⟩ := hS.obj b B e
                  rw [hget] at e1
                  simp only [Option.some.injEq] at e1
                  subst e1
                  cases ob <;> simp only [ORel] at ro
                  obtain ⟨rfl, ro⟩ := ro
                  obtain ⟨cm, hm1, hm2⟩ := ro.getElem? (i := 0) (v := .map m) rfl
                  cases hm2 with
                  | map _ bm em =>
                    obtain ⟨_, o', ob', f1, f2, ro'⟩ := hS.obj m bm em
                    rw [hgm] at f1
                    simp only [Option.some.injEq] at f1
                    subst f1
                    cases ob' <;> simp only [ORel] at ro'
                    rename_i entries clock
                    have hz : entries = #[] := by
                      have := ro'.1.length
                      simpa using this
                    subst hz
                    refine (none_sorted g hgn B bm clock w (by simp only [World.cell?, e2]; simpa using hm1) f2).mono ?_
                    rintro e' w' ⟨rfl, ho⟩
                    exact ⟨_, Γ, rfl, ho.ext hS, hS.over ho, .nils, Nat.le_refl _⟩
          · simp at h
        · simp at h
      · simp at h
    · simp at h
  · simp at h
end Go.Ax.Seat
