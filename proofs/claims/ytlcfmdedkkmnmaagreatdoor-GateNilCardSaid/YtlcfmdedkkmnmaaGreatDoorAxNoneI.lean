/-
  The iterators of maps whose keys are uint32s, where the maps hold nothing.
-/
import Derived.Test.YtlcfmdedkkmnmaaGreatDoorAxNone
namespace Go.Ax.Seat
open Go Go.Proofs Go.RowKit Go.Shelf
attribute [local go_sem] Oper.semAt_some

set_option maxRecDepth 100000 in
set_option maxHeartbeats 1000000 in
theorem none_seqs : GivesNone 195 := by
  refine ⟨enters_of Tryz.func195 (by kernel_rfl) rfl, fun n l Bm bm clock W hm hb => ?_⟩
  refine callsIn_of_wp Tryz.func195 rfl trivial ?_ rfl
  simp only [Tryz.ntmps195, List.size_toArray, List.length_cons, List.length_nil, Nat.reduceAdd, Nat.reduceSub, Array.replicate_succ, Array.replicate_zero, List.push_toArray, List.append_toArray, List.nil_append, List.cons_append]
  have hrg := run_range_map (P := Tryz.prog) W 63 23 24 bm #[] clock Tryz.underlying63 hb
  have hnx : ∀ ty, (Instr.next (.pointer (some ⟨W.heap.size, 0, none⟩)) false ty).run Tryz.prog (W.alloc (.mapIter (some bm) clock #[] clock)) = _ := fun ty => run_next_empty _ ty bm clock hb
  gi_wp2
  refine wpIn_loop_rounds 1 ?_
  rw [roundsIn_succ]
  gi_wp2
  go_end0
  exact ⟨⟨_, rfl⟩, rfl⟩

set_option maxRecDepth 100000 in
set_option maxHeartbeats 1000000 in
theorem none_subs : GivesNone 199 := by
  refine ⟨enters_of Tryz.func199 (by kernel_rfl) rfl, fun n l Bm bm clock W hm hb => ?_⟩
  refine callsIn_of_wp Tryz.func199 rfl trivial ?_ rfl
  simp only [Tryz.ntmps199, List.size_toArray, List.length_cons, List.length_nil, Nat.reduceAdd, Nat.reduceSub, Array.replicate_succ, Array.replicate_zero, List.push_toArray, List.append_toArray, List.nil_append, List.cons_append]
  have hrg := run_range_map (P := Tryz.prog) W 132 23 131 bm #[] clock Tryz.underlying132 hb
  have hnx : ∀ ty, (Instr.next (.pointer (some ⟨W.heap.size, 0, none⟩)) false ty).run Tryz.prog (W.alloc (.mapIter (some bm) clock #[] clock)) = _ := fun ty => run_next_empty _ ty bm clock hb
  gi_wp2
  refine wpIn_loop_rounds 1 ?_
  rw [roundsIn_succ]
  gi_wp2
  go_end0
  exact ⟨⟨_, rfl⟩, rfl⟩
end Go.Ax.Seat
