/-
  AE at this seat: disk.Used and disk.List are as said.
-/
import Derived.Test.YtlcfmdedkkmnmaaGreatDoorAxUsed
import Derived.Test.YtlcfmdedkkmnmaaGreatDoorAxSeat
namespace Go.Ax.Seat
open Go Go.Proofs
section
variable {E : Env} {Γ : Gh} {σ : Sig} {w : World}

def lenV (w : World) (v : Value) : Nat := lenAt w ⟨.bool false, v, 0⟩

theorem lens_rel (hS : RepS E Γ σ w) : ∀ {es : List (AV × AV)} {vals : List Value} {n : Nat}, lens σ es = some n → VsRel Γ w (es.map (·.2)) vals →
    (∀ v ∈ vals, ∃ (bf : Nat) (p : Option Addr) (k c : Nat), v = .pointer (some ⟨bf, 0, none⟩) ∧ w.cell? ⟨bf, 0, none⟩ = some (.slice p k c)) ∧ (vals.map (lenV w)).sum = n
  | [], vals, n, h, hr => by
    cases hr
    simp only [lens, Option.some.injEq] at h
    subst h
    simp
  | (k, v) :: es, vals, n, h, hr => by
    cases hr with
    | cons h1 r1 =>
      rename_i c cs
      simp only at h1
      unfold lens at h
      split at h
      · rename_i heq; simp at heq
      · rename_i k' id r heq
        simp only [List.cons.injEq, Prod.mk.injEq] at heq
        obtain ⟨⟨rfl, rfl⟩, rfl⟩ := heq
        cases h1 with
        | obj _ _ b e =>
          obtain ⟨_, o, ob, e1, e2, ro⟩ := hS.obj id b e
          split at h
          · rename_i rest m hget hl
            simp only [Option.some.injEq] at h
            subst h
            rw [hget] at e1
            simp only [Option.some.injEq] at e1
            subst e1
            obtain ⟨i1, i2⟩ := lens_rel hS hl r1
            cases ob <;> simp only [ORel] at ro
            rename_i arr et frz
            obtain ⟨rfl, ro⟩ := ro
            have hcell : w.cell? ⟨b, 0, none⟩ = some (.slice none 0 0) := by
              obtain ⟨x, hx1, hx2⟩ := ro.getElem? (i := 0) (v := .nils) rfl
              cases hx2
              simp only [World.cell?, e2]
              simpa using hx1
            refine ⟨fun v hv => ?_, ?_⟩
            · rcases List.mem_cons.1 hv with rfl | hv
              · exact ⟨b, none, 0, 0, rfl, hcell⟩
              · exact i1 v hv
            · simp only [List.map_cons, List.sum_cons, i2]
              simp [lenV, lenAt, hcell]
          · rename_i p len cs' rest m hget hl
            simp only [Option.some.injEq] at h
            subst h
            rw [hget] at e1
            simp only [Option.some.injEq] at e1
            subst e1
            obtain ⟨i1, i2⟩ := lens_rel hS hl r1
            cases ob <;> simp only [ORel] at ro
            rename_i arr et frz
            obtain ⟨rfl, ro⟩ := ro
            obtain ⟨q, cap, hcell⟩ : ∃ q cap, w.cell? ⟨b, 0, none⟩ = some (.slice q len cap) := by
              obtain ⟨x, hx1, hx2⟩ := ro.getElem? (i := 0) (v := .slice p len cs') rfl
              cases hx2
              exact ⟨_, _, by simp only [World.cell?, e2]; simpa using hx1⟩
            refine ⟨fun v hv => ?_, ?_⟩
            · rcases List.mem_cons.1 hv with rfl | hv
              · exact ⟨b, q, len, cap, rfl, hcell⟩
              · exact i1 v hv
            · simp only [List.map_cons, List.sum_cons, i2]
              simp [lenV, lenAt, hcell]
          · simp at h
      · simp at h

theorem enterUsed : Enterable Tryz.prog 235 := ⟨Tryz.f235, Tryz.func235, by kernel_rfl, by kernel_rfl⟩

theorem used_ok : CallOK Tryz.prog E fun g args σ => if g = 235 then usedA args σ else none := by
  intro g args σ v σ' h
  simp only at h
  split at h
  · rename_i hg
    subst hg
    refine ⟨enterUsed, fun Γ w cargs hS ha => ?_⟩
    obtain ⟨cl⟩ := cargs
    unfold usedA at h
    split at h
    · simp only [Option.some.injEq, Prod.mk.injEq] at h
      obtain ⟨rfl, rfl⟩ := h
      cases ha with
      | cons h1 r =>
        cases r
        cases h1
        refine (used_nil w).mono ?_
        rintro e w' ⟨rfl, rfl⟩
        exact ⟨_, Γ, rfl, .refl _ _ _, hS, .int _ _, Nat.le_refl _⟩
    · rename_i id
      split at h
      · rename_i x m rest hget
        split at h
        · rename_i es hgm
          split at h
          · rename_i n hl
            split at h
            · rename_i hn
              simp only [Option.some.injEq, Prod.mk.injEq] at h
              obtain ⟨rfl, rfl⟩ := h
              cases ha with
              | cons h1 r =>
                cases r
                cases h1 with
                | obj _ _ b e =>
                  obtain ⟨_, o, ob, e1, e2, ro⟩ := hS.obj id b e
                  rw [hget] at e1
                  simp only [Option.some.injEq] at e1
                  subst e1
                  cases ob <;> simp only [ORel] at ro
                  rename_i arr et frz
                  obtain ⟨rfl, ro⟩ := ro
                  obtain ⟨cm, hm1, hm2⟩ := ro.getElem? (i := 1) (v := .map m) rfl
                  cases hm2 with
                  | map _ bm em =>
                    obtain ⟨_, o', ob', f1, f2, ro'⟩ := hS.obj m bm em
                    rw [hgm] at f1
                    simp only [Option.some.injEq] at f1
                    subst f1
                    cases ob' <;> simp only [ORel] at ro'
                    rename_i entries clock
                    obtain ⟨r1, r2, r3⟩ := ro'
                    obtain ⟨g1, g2⟩ := lens_rel hS hl r2
                    have hsum : (entries.toList.map (lenAt w)).sum = n := by
                      rw [← g2, List.map_map]
                      rfl
                    refine (used_walk b bm entries clock w (by simp only [World.cell?, e2]; simpa using hm1) f2 r3 (fun x hx => ?_) (by rw [hsum]; exact hn)).mono ?_
                    · exact g1 x.val (List.mem_map_of_mem hx)
                    · rintro e w' ⟨rfl, w1, seen, hal, rfl⟩
                      have ho : Over w (w1.alloc (.mapIter (some bm) clock seen clock)) := by
                        refine ⟨fun k hk => ?_, ?_, hal.2.1, hal.2.2⟩
                        · rw [heap_alloc_old w1 _ (by rw [hal.1]; exact hk), hal.1]
                        · show w.heap.size ≤ (w1.heap.push _).size
                          rw [Array.size_push, hal.1]; omega
                      rw [hsum]
                      exact ⟨_, Γ, rfl, ho.ext hS, hS.over ho, .int _ _, Nat.le_refl _⟩
            · simp at h
          · simp at h
        · simp at h
      · simp at h
    · simp at h
  · simp at h
end
end Go.Ax.Seat
