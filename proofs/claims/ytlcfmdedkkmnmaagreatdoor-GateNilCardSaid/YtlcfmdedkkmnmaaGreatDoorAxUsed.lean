/-
  disk.Used, whichever order the map's entries come in.
-/
import Derived.Test.YtlcfmdedkkmnmaaGreatDoorRows
import Derived.Tactics
import Derived.Tactics2
import Derived.StillTactics
import Derived.Laws.Pointers
import Derived.Laws.Cells
import Derived.Laws.Entries
import Derived.Laws.RangeAny
import Derived.Laws.Closers25
import Derived.Laws.Closers25b
import Derived.Laws.OwnMore
import Derived.Laws.Slices
import Derived.Laws.Small
import Derived.Laws.Wrap64
import Derived.Scope
import Derived.FnLit
import Derived.LoopTactic
import Derived.LoopN
import Derived.Laws.IdiomRangeMap
namespace Go.Ax.Seat
open Go Go.Proofs

/-- How long the slice is that stands where an entry's value leads. -/
def lenAt (w : World) (x : MapEntry) : Nat := match x.val with
  | .pointer (some a) => match w.cell? a with
    | some (.slice _ n _) => n
    | _ => 0
  | _ => 0

def seenLens (w : World) : List MapEntry → Array Nat → Nat
  | [], _ => 0
  | x :: l, seen => (if seen.contains x.born then lenAt w x else 0) + seenLens w l seen

theorem seenLens_other (w : World) (seen : Array Nat) (b : Nat) : ∀ (es : List MapEntry), b ∉ es.map (·.born) → seenLens w es (seen.push b) = seenLens w es seen
  | [], _ => rfl
  | x :: l, h => by
    have hx : (x.born == b) = false := by
      cases hc : x.born == b with
      | false => rfl
      | true => exact absurd (List.mem_cons.2 (Or.inl (beq_iff_eq.1 hc).symm)) h
    have ih := seenLens_other w seen b l (fun e => h (List.mem_cons.2 (Or.inr e)))
    simp only [seenLens, contains_push, hx, Bool.or_false, ih]

theorem seenLens_push (w : World) (seen : Array Nat) (e : MapEntry) (hs : seen.contains e.born = false) : ∀ (es : List MapEntry), (es.map (·.born)).Nodup → e ∈ es → seenLens w es (seen.push e.born) = seenLens w es seen + lenAt w e
  | x :: l, hn, he => by
    have hn' : x.born ∉ l.map (·.born) ∧ (l.map (·.born)).Nodup := List.nodup_cons.1 hn
    rcases List.mem_cons.1 he with rfl | h
    · simp only [seenLens, contains_push, hs, beq_self_eq_true, Bool.or_true, if_true, Bool.false_eq_true, if_false, seenLens_other w seen e.born l hn'.1]
      omega
    · have hx : (x.born == e.born) = false := by
        cases hc : x.born == e.born with
        | false => rfl
        | true => exact absurd (by rw [beq_iff_eq.1 hc]; exact List.mem_map.2 ⟨e, h, rfl⟩) hn'.1
      simp only [seenLens, contains_push, hx, Bool.or_false, seenLens_push w seen e hs l hn'.2 h]
      omega

theorem seenLens_le (w : World) (seen : Array Nat) : ∀ (es : List MapEntry), seenLens w es seen ≤ (es.map (lenAt w)).sum
  | [] => Nat.le_refl _
  | x :: l => by
    have := seenLens_le w seen l
    simp only [seenLens, List.map_cons, List.sum_cons]
    split <;> omega

theorem seenLens_full (w : World) (seen : Array Nat) : ∀ (es : List MapEntry), (∀ x ∈ es, seen.contains x.born = true) → seenLens w es seen = (es.map (lenAt w)).sum
  | [], _ => rfl
  | x :: l, h => by
    simp only [seenLens, h x (List.mem_cons.2 (Or.inl rfl)), if_true, List.map_cons, List.sum_cons, seenLens_full w seen l (fun y hy => h y (List.mem_cons.2 (Or.inr hy)))]

theorem seenLens_none (w : World) : ∀ (es : List MapEntry), seenLens w es #[] = 0
  | [] => rfl
  | x :: l => by
    have : (#[] : Array Nat).contains x.born = false := by simp
    simp only [seenLens, this, Bool.false_eq_true, if_false, seenLens_none w l]

theorem seenLens_all (w : World) (es : Array MapEntry) (seen : Array Nat) (h : (leftOf es seen).size = 0) : seenLens w es.toList seen = (es.toList.map (lenAt w)).sum := by
  refine seenLens_full w seen es.toList (fun x hx => ?_)
  have h2 : leftOf es seen = #[] := Array.eq_empty_of_size_eq_zero h
  unfold leftOf at h2
  rw [Array.filter_eq_empty_iff] at h2
  have h3 := h2 x (Array.mem_toList_iff.1 hx)
  cases hc : seen.contains x.born with
  | true => rfl
  | false => rw [hc] at h3; exact absurd rfl h3

set_option maxRecDepth 1000000 in
theorem used_walk (bd bm : Nat) (es : Array MapEntry) (clock : Nat) (w : World) (hd : w.cell? ⟨bd, 1, none⟩ = some (.map (some bm))) (hb : w.heap[bm]? = some (.map es clock)) (hst : MapKept.Stamped es clock)
    (hv : ∀ x ∈ es.toList, ∃ (bf : Nat) (p : Option Addr) (n c : Nat), x.val = .pointer (some ⟨bf, 0, none⟩) ∧ w.cell? ⟨bf, 0, none⟩ = some (.slice p n c)) (hsum : (es.toList.map (lenAt w)).sum < 2 ^ 62) :
    Calls Tryz.prog 235 #[.pointer (some ⟨bd, 0, none⟩)] w fun e w' => e = .returned (.int .i64 ((es.toList.map (lenAt w)).sum : Nat)) ∧ ∃ (w1 : World) (seen : Array Nat), w1.Alike w ∧ w' = w1.alloc (.mapIter (some bm) clock seen clock) := by
  have hrg := run_range_map (P := Tryz.prog) w 113 9 119 bm es clock Tryz.underlying113 hb
  go_enter Tryz.func235, Tryz.ntmps235
  go_wp2
  go_loopw [3] (fun s w' => ∃ (w1 : World) (seen : Array Nat), w1.Alike w ∧ w' = w1.alloc (.mapIter (some bm) clock seen clock) ∧ s = .int .i64 (seenLens w es.toList seen : Nat)) (fun _ w' => (leftOf es (w'.iterSeen w.heap.size)).size)
  case atStart => exact ⟨w, #[], ⟨rfl, rfl, rfl⟩, rfl, by rw [seenLens_none]; rfl⟩
  case round =>
    obtain ⟨w1, seen, hal, rfl, rfl⟩ := hrel
    have hsz : w1.heap.size = w.heap.size := by rw [hal.1]
    have hb1 : w1.heap[bm]? = some (.map es clock) := by rw [hal.1]; exact hb
    have law := run_next_map (P := Tryz.prog) w1 0 bm clock clock seen es clock hb1 hst.1 (Nat.le_refl _)
    rw [hsz] at law
    rcases law with ⟨h0, hrun⟩ | ⟨e, he, w2, hal2, hrun⟩
    · have hnx : ∀ ty, (Instr.next (.pointer (some ⟨w.heap.size, 0, none⟩)) false ty).run Tryz.prog (w1.alloc (.mapIter (some bm) clock seen clock)) = _ := fun _ => hrun
      go_wp2
      go_ret
      rw [seenLens_all w es seen h0]
      exact ⟨rfl, w1, seen, hal, rfl⟩
    · obtain ⟨bf, p, n, c, hval, hcell⟩ := hv e (mem_left he).1
      have hlen : lenAt w e = n := by simp only [lenAt, hval, hcell]
      rw [hval] at hrun
      have hnx : ∀ ty, (Instr.next (.pointer (some ⟨w.heap.size, 0, none⟩)) false ty).run Tryz.prog (w1.alloc (.mapIter (some bm) clock seen clock)) = _ := fun _ => hrun
      have hsz2 : w2.heap.size = w.heap.size := by rw [hal2.1, hal.1]
      have hb2 : w2.heap[bm]? = some (.map es clock) := by rw [hal2.1]; exact hb1
      have hen := run_entry_map (P := Tryz.prog) w2 bm clock seen es clock e hb2 (mem_left he).1 hst.2.1
      rw [hsz2, hval] at hen
      have hbf : bf < w.heap.size := World.block_lt_of_cell? w _ hcell
      have hcell2 : (w2.alloc (.mapIter (some bm) clock (seen.push e.born) clock)).cell? ⟨bf, 0, none⟩ = some (.slice p n c) := by
        have : (w2.alloc (.mapIter (some bm) clock (seen.push e.born) clock)).heap[bf]? = w.heap[bf]? := by
          rw [heap_alloc_old w2 _ (by rw [hsz2]; exact hbf), hal2.1, hal.1]
        simp only [World.cell?, this] at hcell ⊢
        exact hcell
      go_wp2
      go_roundw
      case rel =>
        refine ⟨w2, seen.push e.born, ⟨hal2.1.trans hal.1, hal2.2.1.trans hal.2.1, hal2.2.2.trans hal.2.2⟩, rfl, ?_⟩
        have hle := seenLens_le w (seen.push e.born) es.toList
        rw [seenLens_push w seen e (mem_left he).2 es.toList hst.2.1 (mem_left he).1, hlen] at hle ⊢
        have e1 : (((seenLens w es.toList seen : Nat) : Int) + (n : Int) + 9223372036854775808) % 18446744073709551616 - 9223372036854775808 = ((seenLens w es.toList seen + n : Nat) : Int) := by omega
        rw [e1]
      case measure =>
        rw [← hsz2, World.iterSeen_alloc, hsz2, ← hsz, World.iterSeen_alloc]
        exact left_shrinks es seen e he

set_option maxRecDepth 1000000 in
theorem used_nil (w : World) : Calls Tryz.prog 235 #[.pointer none] w fun e w' => e = .returned (.int .i64 0) ∧ w' = w := by
  go_enter Tryz.func235, Tryz.ntmps235
  go_wp2
  all_goals go_ret
  all_goals exact ⟨rfl, rfl⟩
end Go.Ax.Seat
