/-
  slices.Sorted(maps.Keys(m)) where m, a map of keys that are uint32s, holds nothing: nil comes back, and nothing that lay before has turned.
-/
import Derived.RangeFuncNested
import Derived.RangeFuncBound
import Derived.RangeFuncCalls
import Derived.RangeFuncLeaves
import Derived.Shelf.Abstract
import Derived.Shelf.RegionOpen
import Derived.WalkKit
import Derived.OwnWalkIn
import Derived.TacticsInMore
import Derived.LoopNIn
import Derived.LoopIn
import Derived.Laws.IdiomRangeMap
import Derived.Test.YtlcfmdedkkmnmaaGreatDoorRows
import Derived.Test.YtlcfmdedkkmnmaaGreatDoorAxIso
namespace Go.Ax.Seat
open Go Go.Proofs Go.RowKit Go.Shelf
attribute [local go_sem] Oper.semAt_some

theorem run_next_empty {P : Program} (w : World) (ty : TypeId) (bm clock : Nat) (hb : w.heap[bm]? = some (.map #[] clock)) :
    (Instr.next (.pointer (some ⟨w.heap.size, 0, none⟩)) false ty).run P (w.alloc (.mapIter (some bm) clock #[] clock)) = .ok (.tuple #[.bool false]) (w.alloc (.mapIter (some bm) clock #[] clock)) := by
  rcases run_next_map (P := P) w ty bm clock clock #[] #[] clock hb (by simp) (Nat.le_refl _) with ⟨_, h⟩ | ⟨e, he, _⟩
  · exact h
  · simp [leftOf] at he

/-- An iterator's function that never yields where its map holds nothing. -/
def GivesNone (g : Nat) : Prop := (∀ args w, (callFunc g args).run Tryz.prog w = .ok (.enter g args) w) ∧
  ∀ (n l Bm bm clock : Nat) (W : World), W.cell? ⟨Bm, 0, none⟩ = some (.map (some bm)) → W.heap[bm]? = some (.map #[] clock) →
    CallsIn Fence.wide n Tryz.prog g #[.func (.yield l) #[] #[], .pointer (some ⟨Bm, 0, none⟩)] W fun e W' => (∃ v, e = .returned v) ∧ W' = W.alloc (.mapIter (some bm) clock #[] clock)

set_option maxRecDepth 100000 in
set_option maxHeartbeats 2000000 in
theorem none_append (g : Nat) (hg : GivesNone g) (n : Nat) (hn : 2 ≤ n) (Bm bm clock : Nat) (w : World) (hm : w.cell? ⟨Bm, 0, none⟩ = some (.map (some bm))) (hb : w.heap[bm]? = some (.map #[] clock)) :
    CallsIn Fence.wide n Tryz.prog 240 #[.slice none 0 0, .func (.func g) #[] #[.pointer (some ⟨Bm, 0, none⟩)]] w fun e w' => e = .returned (.slice none 0 0) ∧ Below w.heap.size w w' := by
  refine callsIn_of_wp_marks Tryz.func240 rfl trivial ?_ rfl
  simp only [Tryz.ntmps240, List.size_toArray, List.length_cons, List.length_nil, Nat.reduceAdd, Nat.reduceSub, Array.replicate_succ, Array.replicate_zero, List.push_toArray, List.append_toArray, List.nil_append, List.cons_append]
  gi_wp2
  refine wpIn_rangeFunc ?_
  intro fn hfn
  have hbm : bm < w.heap.size := (Array.getElem?_eq_some_iff.1 hb).1
  have hBm : Bm < w.heap.size := World.block_lt_of_cell? w ⟨Bm, 0, none⟩ hm
  obtain ⟨W0, hW0⟩ : ∃ W0, w.alloc (.cells #[.slice none 0 0] 53) = W0 := ⟨_, rfl⟩
  have hs0 : W0.heap.size = w.heap.size + 1 := by rw [← hW0]; simp
  have hv0 : W0.heap[w.heap.size]? = some (.cells #[.slice none 0 0] 53 (0, 0)) := by rw [← hW0]; exact World.alloc_heap_new w _
  have hb0 : Below w.heap.size w W0 := by rw [← hW0]; exact (Below.refl _ w).alloc (Nat.le_refl _) _
  rw [hW0]
  refine ⟨_, _, _, { target := .fn (.func g) #[.pointer (some ⟨Bm, 0, none⟩)], args := #[.func (.yield (W0.heap.size + 1)) #[] #[]] }, _, g,
    #[.func (.yield (W0.heap.size + 1)) #[] #[]] ++ #[.pointer (some ⟨Bm, 0, none⟩)], _, run_enterLoop_outer _ _ _ _ _, by simp [resolve, go_sem]; rfl, fun _ _ => trivial, by simp [invoke, go_sem, hg.1]; rfl, fun _ => by omega, ?_⟩
  have hnew : ∀ o, ((W0.alloc (.deferred (some []))).alloc o).heap[W0.heap.size + 1]? = some o := fun o => by
    have := World.alloc_heap_new (W0.alloc (.deferred (some []))) o
    rwa [World.size_alloc] at this
  have hdef : ∀ o, ((W0.alloc (.deferred (some []))).alloc o).heap[W0.heap.size]? = some (.deferred (some [])) := fun o => (Below.heap_alloc _ _ _ (by simp)).trans (World.alloc_heap_new W0 _)
  have hB : ∀ o, Below w.heap.size w ((W0.alloc (.deferred (some []))).alloc o) := fun o => (hb0.alloc hb0.size _).alloc (by have := hb0.size; simp; omega) _
  have hbox : ∀ o, ((W0.alloc (.deferred (some []))).alloc o).heap[w.heap.size]? = some (.cells #[.slice none 0 0] 53 (0, 0)) := fun o =>
    (Below.heap_alloc _ _ _ (by simp; omega)).trans ((Below.heap_alloc _ _ _ (by omega)).trans hv0)
  have hsz : ∀ o, ((W0.alloc (.deferred (some []))).alloc o).heap.size = w.heap.size + 3 := fun o => by simp; omega
  refine (hg.2 (n - 1) (W0.heap.size + 1) Bm bm clock _ (((hB _).cell (p := ⟨Bm, 0, none⟩) hBm).trans hm) (((hB _).block bm hbm).trans hb)).mono ?_
  rintro e W2 ⟨⟨v, rfl⟩, rfl⟩
  refine ⟨_, _, run_endLoop ((Below.heap_alloc _ _ _ (by rw [hsz]; omega)).trans (hnew _)) (by simp), ?_⟩
  dsimp only
  generalize hW3 : World.putObj _ _ _ = W3
  have hbox3 : W3.heap[w.heap.size]? = some (.cells #[.slice none 0 0] 53 (0, 0)) := by
    rw [← hW3]; exact (World.putObj_heap_other (by omega)).trans ((Below.heap_alloc _ _ _ (by rw [hsz]; omega)).trans (hbox _))
  have hK3 : W3.heap[W0.heap.size]? = some (.deferred (some [])) := by
    rw [← hW3]; exact (World.putObj_heap_other (by omega)).trans ((Below.heap_alloc _ _ _ (by rw [hsz]; omega)).trans (hdef _))
  have hB3 : Below w.heap.size w W3 := by
    rw [← hW3]; exact ((hB _).alloc (by rw [hsz]; omega) _).grown (grownBy_putObj' _ _ _) (by simp; omega) (fun k e => by cases e; omega)
  have hc3 : W3.cell? ⟨w.heap.size, 0, none⟩ = some (.slice none 0 0) := by simp [World.cell?, hbox3]
  clear hW3
  gi_wp2
  refine ⟨by simp, .inl ⟨_, _, rfl, run_takeDeferred hK3, ?_⟩⟩
  exact ⟨_, results_tmp rfl _ _ _, rfl, hB3.grown (grownBy_putObj' _ _ _) hB3.size (fun k e => by cases e; omega)⟩
end Go.Ax.Seat
