/-
  disk.List: the names, sorted.
-/
import Derived.Test.YtlcfmdedkkmnmaaGreatDoorAxUsed
import Derived.Test.YtlcfmdedkkmnmaaGreatDoorAxIter
namespace Go.Ax.Seat
open Go Go.Proofs Go.RowKit Go.Maps Go.Sort Go.Shelf

set_option maxRecDepth 1000000 in
theorem list_walk (bd bm : Nat) (es : Array MapEntry) (_ : Nat) (w : World) (hd : w.cell? ⟨bd, 1, none⟩ = some (.map (some bm))) (hown : w.ownsMap (H := Unit) Tryz.prog 9 (fun _ => some (.nil, [])) bm es.size (.map ((es.toList.map (WideElems.rg Tryz.prog 9 (fun _ => some (.nil, [])))).foldr DataW.insert [])))
    (hmax : es.size < 2 ^ 40) :
    Calls Tryz.prog 48 #[.pointer (some ⟨bd, 0, none⟩)] w fun e w' => ∃ (v : Value) (ss : List (List UInt8)), e = .returned v ∧ ss.Perm (strKeys (DataW.map (H := Unit) ((es.toList.map (WideElems.rg Tryz.prog 9 (fun _ => some (.nil, [])))).foldr DataW.insert []))) ∧
      w'.ownsRow (w.alloc (.cells #[.map (some bm)] 113)).heap.size 9 1 v ss.length ((ss.mergeSort (fun x y => decide (x ≤ y))).map encStr) ∧ (v = .slice none 0 0 ↔ ss = []) ∧ Below (w.alloc (.cells #[.map (some bm)] 113)).heap.size (w.alloc (.cells #[.map (some bm)] 113)) w' := by
  have hsize : Maps.size (DataW.map (H := Unit) ((es.toList.map (WideElems.rg Tryz.prog 9 (fun _ => some (.nil, [])))).foldr DataW.insert [])) = es.size := by
    rw [Maps.size_eq, DataW.length_sorted]; simp
  go_enter Tryz.func48, Tryz.ntmps48
  go_wp2_with (first
    | (go_at_call 102; refine (callsIn_wide.1 (Tryz.maps_Keys_list _ _)).mono ?_; rintro e w' ⟨rfl, rfl⟩)
    | (go_at_call 101; refine (callsIn_wide.1 (Tryz.slices_Sorted_keys_list bm es.size _ (fun _ => some (.nil, [])) w hown (by rw [hsize]; exact Nat.le_trans (Nat.le_of_lt hmax) (by decide)) (by rw [hsize]; omega))).mono ?_; rintro e w' ⟨v, ss, rfl, hS, hrow, hnil, hbel⟩))
  all_goals go_ret
  all_goals exact ⟨v, ss, rfl, hS, hrow, hnil, hbel⟩
end Go.Ax.Seat
