/-
  DERIVED. MADE BY PROGRAM (lay-iter.mjs) off the dump: THE SHELF's CONTRACTS ON 'slices.Sorted(maps.Keys(m))' LAID AT THIS DUMP: 1 map type. NO WALK OF THE LIBRARY's TEXT: each is one application of a contract over any P and ρ (Derived/Shelf/SlIter/, Derived/Shelf/SortM/).
-/
import Derived.Shelf.SlIter.Nil
import Derived.Shelf.SortM.Plain
import Derived.Shelf.SortM.SortNone
import Derived.Ground.GgzProg
import Derived.Ground.SlgmProg
import Derived.Test.YtjpcmbamjignnaaGreatDoorProg
namespace Go.Proofs
open Go.RowKit Go.Maps Go.Sort Go.Shelf

-- maps.Keys[map[string]*equerry/disk.file,string,*equerry/disk.file] (function 125; its iterator 186) · slices.Sorted[string] (124) · slices.Sort[[]string,string] (185) · the map's type 149, the keys' 9

def Tryz.keys125_ren : Go.Shelf.Ren := ⟨fun | 7 => 125 | 10 => 186 | n => n, fun | 23 => 149 | 26 => 9 | 3 => 154 | 28 => 210 | 0 => 0 | 27 => 209 | 33 => 157 | 4 => 4 | n => n, fun | n => n⟩
theorem Tryz.keys125 : Go.Proofs.SlLaysZ.n7 Tryz.prog Tryz.keys125_ren := {
  mixed := by kernel_rfl
  f7 := ⟨Tryz.f125.name, by decide, Tryz.func125.trans (congrArg some (by kernel_rfl))⟩
  f10 := ⟨Tryz.f186.name, by decide, Tryz.func186.trans (congrArg some (by kernel_rfl))⟩
  t0 := Tryz.underlying0
  a0 := Tryz.isAgg0
  z0 := Tryz.sizeOf0
  v0 := Tryz.zeroValue0
  t4 := Tryz.underlying4
  a4 := Tryz.isAgg4
  z4 := Tryz.sizeOf4
  v4 := Tryz.zeroValue4
  t23 := Tryz.underlying149
  a23 := Tryz.isAgg149
  z23 := Tryz.sizeOf149
  v23 := Tryz.zeroValue149
  t26 := Tryz.underlying9
  a26 := Tryz.isAgg9
  z26 := Tryz.sizeOf9
  v26 := Tryz.zeroValue9
  t27 := Tryz.underlying209
  a27 := Tryz.isAgg209
  z27 := Tryz.sizeOf209
  v27 := Tryz.zeroValue209
  t28 := Tryz.underlying210
  a28 := Tryz.isAgg210
  z28 := Tryz.sizeOf210
  v28 := Tryz.zeroValue210
  t33 := Tryz.underlying157
  a33 := Tryz.isAgg157
  z33 := Tryz.sizeOf157
  v33 := Tryz.zeroValue157 }
def Tryz.sorted124_ren : Go.Shelf.Ren := ⟨fun | 6 => 124 | 8 => 184 | 9 => 185 | 11 => 214 | 13 => 198 | 12 => 215 | 23 => 239 | 24 => 209 | 14 => 250 | 15 => 251 | 16 => 252 | 17 => 253 | 18 => 254 | 19 => 255 | 20 => 256 | 21 => 257 | 22 => 258 | 25 => 277 | 26 => 267 | 27 => 268 | 28 => 278 | 29 => 279 | 30 => 280 | 31 => 285 | n => n, fun | 26 => 9 | 28 => 210 | 24 => 152 | 0 => 0 | 3 => 3 | 37 => 264 | 48 => 85 | 50 => 23 | 4 => 4 | 40 => 313 | 39 => 312 | 45 => 318 | 5 => 5 | 9 => 9 | 51 => 346 | 55 => 349 | 57 => 354 | 58 => 355 | 33 => 157 | n => n, fun | n => n⟩
theorem Tryz.sorted124 : Go.Proofs.SlLaysZ.n6 Tryz.prog Tryz.sorted124_ren := {
  mixed := by kernel_rfl
  f6 := ⟨Tryz.f124.name, by decide, Tryz.func124.trans (congrArg some (by kernel_rfl))⟩
  f8 := ⟨Tryz.f184.name, by decide, Tryz.func184.trans (congrArg some (by kernel_rfl))⟩
  f11 := ⟨Tryz.f214.name, by decide, Tryz.func214.trans (congrArg some (by kernel_rfl))⟩
  t0 := Tryz.underlying0
  a0 := Tryz.isAgg0
  z0 := Tryz.sizeOf0
  v0 := Tryz.zeroValue0
  t24 := Tryz.underlying152
  a24 := Tryz.isAgg152
  z24 := Tryz.sizeOf152
  v24 := Tryz.zeroValue152
  t26 := Tryz.underlying9
  a26 := Tryz.isAgg9
  z26 := Tryz.sizeOf9
  v26 := Tryz.zeroValue9
  t28 := Tryz.underlying210
  a28 := Tryz.isAgg210
  z28 := Tryz.sizeOf210
  v28 := Tryz.zeroValue210
  i26 := by kernel_rfl }
def Tryz.sort185_ren : Go.Shelf.Ren := ⟨fun | 6 => 185 | 8 => 198 | 9 => 215 | 19 => 239 | 20 => 209 | 21 => 250 | 22 => 251 | 23 => 252 | 24 => 253 | 25 => 254 | 26 => 255 | 27 => 256 | 28 => 257 | 29 => 258 | 36 => 277 | 31 => 267 | 32 => 268 | 37 => 278 | 38 => 279 | 39 => 280 | 41 => 285 | n => n, fun | 27 => 152 | 29 => 9 | 3 => 3 | 32 => 264 | 26 => 152 | 0 => 0 | 44 => 85 | 46 => 23 | 4 => 4 | 36 => 313 | 35 => 312 | 41 => 318 | 5 => 5 | 9 => 9 | 53 => 346 | 57 => 349 | 63 => 354 | 64 => 355 | n => n, fun | n => n⟩
theorem Tryz.sort185 : Go.Proofs.SlLaysM.n6 Tryz.prog Tryz.sort185_ren := {
  mixed := by kernel_rfl
  f6 := ⟨Tryz.f185.name, by decide, Tryz.func185.trans (congrArg some (by kernel_rfl))⟩
  f8 := Tryz.func198.trans (congrArg some (by kernel_rfl))
  f9 := ⟨Tryz.f215.name, by decide, Tryz.func215.trans (congrArg some (by kernel_rfl))⟩
  f19 := Tryz.func239.trans (congrArg some (by kernel_rfl))
  f20 := Tryz.func209.trans (congrArg some (by kernel_rfl))
  f21 := ⟨Tryz.f250.name, by decide, Tryz.func250.trans (congrArg some (by kernel_rfl))⟩
  f22 := ⟨Tryz.f251.name, by decide, Tryz.func251.trans (congrArg some (by kernel_rfl))⟩
  f23 := ⟨Tryz.f252.name, by decide, Tryz.func252.trans (congrArg some (by kernel_rfl))⟩
  f24 := ⟨Tryz.f253.name, by decide, Tryz.func253.trans (congrArg some (by kernel_rfl))⟩
  f25 := ⟨Tryz.f254.name, by decide, Tryz.func254.trans (congrArg some (by kernel_rfl))⟩
  f26 := ⟨Tryz.f255.name, by decide, Tryz.func255.trans (congrArg some (by kernel_rfl))⟩
  f27 := ⟨Tryz.f256.name, by decide, Tryz.func256.trans (congrArg some (by kernel_rfl))⟩
  f28 := ⟨Tryz.f257.name, by decide, Tryz.func257.trans (congrArg some (by kernel_rfl))⟩
  f29 := ⟨Tryz.f258.name, by decide, Tryz.func258.trans (congrArg some (by kernel_rfl))⟩
  f31 := Tryz.func267.trans (congrArg some (by kernel_rfl))
  f32 := Tryz.func268.trans (congrArg some (by kernel_rfl))
  f36 := ⟨Tryz.f277.name, by decide, Tryz.func277.trans (congrArg some (by kernel_rfl))⟩
  f37 := ⟨Tryz.f278.name, by decide, Tryz.func278.trans (congrArg some (by kernel_rfl))⟩
  f38 := ⟨Tryz.f279.name, by decide, Tryz.func279.trans (congrArg some (by kernel_rfl))⟩
  f39 := ⟨Tryz.f280.name, by decide, Tryz.func280.trans (congrArg some (by kernel_rfl))⟩
  f41 := ⟨Tryz.f285.name, by decide, Tryz.func285.trans (congrArg some (by kernel_rfl))⟩
  t0 := Tryz.underlying0
  a0 := Tryz.isAgg0
  z0 := Tryz.sizeOf0
  v0 := Tryz.zeroValue0
  t3 := Tryz.underlying3
  a3 := Tryz.isAgg3
  z3 := Tryz.sizeOf3
  v3 := Tryz.zeroValue3
  t4 := Tryz.underlying4
  a4 := Tryz.isAgg4
  z4 := Tryz.sizeOf4
  v4 := Tryz.zeroValue4
  t5 := Tryz.underlying5
  a5 := Tryz.isAgg5
  z5 := Tryz.sizeOf5
  v5 := Tryz.zeroValue5
  t9 := Tryz.underlying9
  a9 := Tryz.isAgg9
  z9 := Tryz.sizeOf9
  v9 := Tryz.zeroValue9
  t26 := Tryz.underlying152
  a26 := Tryz.isAgg152
  z26 := Tryz.sizeOf152
  v26 := Tryz.zeroValue152
  t27 := Tryz.underlying152
  a27 := Tryz.isAgg152
  z27 := Tryz.sizeOf152
  v27 := Tryz.zeroValue152
  t29 := Tryz.underlying9
  a29 := Tryz.isAgg9
  z29 := Tryz.sizeOf9
  v29 := Tryz.zeroValue9
  t32 := Tryz.underlying264
  a32 := Tryz.isAgg264
  z32 := Tryz.sizeOf264
  v32 := Tryz.zeroValue264
  t35 := Tryz.underlying312
  a35 := Tryz.isAgg312
  z35 := Tryz.sizeOf312
  v35 := Tryz.zeroValue312
  t36 := Tryz.underlying313
  a36 := Tryz.isAgg313
  z36 := Tryz.sizeOf313
  v36 := Tryz.zeroValue313
  t41 := Tryz.underlying318
  a41 := Tryz.isAgg318
  z41 := Tryz.sizeOf318
  v41 := Tryz.zeroValue318
  t44 := Tryz.underlying85
  a44 := Tryz.isAgg85
  z44 := Tryz.sizeOf85
  v44 := Tryz.zeroValue85
  t46 := Tryz.underlying23
  a46 := Tryz.isAgg23
  z46 := Tryz.sizeOf23
  v46 := Tryz.zeroValue23
  t53 := Tryz.underlying346
  a53 := Tryz.isAgg346
  z53 := Tryz.sizeOf346
  v53 := Tryz.zeroValue346
  t57 := Tryz.underlying349
  a57 := Tryz.isAgg349
  z57 := Tryz.sizeOf349
  v57 := Tryz.zeroValue349
  t63 := Tryz.underlying354
  a63 := Tryz.isAgg354
  z63 := Tryz.sizeOf354
  v63 := Tryz.zeroValue354
  t64 := Tryz.underlying355
  a64 := Tryz.isAgg355
  z64 := Tryz.sizeOf355
  v64 := Tryz.zeroValue355 }

/-- slices.Sort's two contracts at this dump, at the fence that asks nothing. -/
theorem Tryz.sorts124 (m : Nat) : AnyZ.SortsIn Tryz.prog Tryz.sorted124_ren Fence.wide m :=
  ⟨fun blk off cap ss W hH hblk hsz => callsIn_wide.2 (AnyM.slices_Sort_string Tryz.sort185 blk off cap ss W hH hblk hsz),
   fun p cap W => callsIn_wide.2 (AnyM.slices_Sort_string_none Tryz.sort185 p cap W)⟩

/-- **maps.Keys[map[string]*equerry/disk.file,string,*equerry/disk.file], at whatever map, the nil one too:** a function value over ONE NEW BLOCK, which holds the map. -/
theorem Tryz.maps_Keys_125 (mb : Option Nat) (W : World) : CallsIn Fence.wide 5 Tryz.prog 125 #[.map mb] W fun e w' => e = .returned (.func (.func 186) #[] #[.pointer (some ⟨W.heap.size, 0, none⟩)]) ∧ w' = W.alloc (.cells #[.map mb] 149) :=
  AnyZ.keys_in Tryz.keys125 Fence.wide 5 trivial rfl mb W

set_option maxHeartbeats 1000000 in
/-- **slices.Sorted[string] AT WHAT maps.Keys[map[string]*equerry/disk.file,string,*equerry/disk.file] HANDED BACK FOR A MAP THAT IS NOT nil** ('w': the world AHEAD of maps.Keys' call): A NEW SLICE THAT HOLDS THE MAP's KEYS, SORTED; nil just where it has none; nothing that lay before has turned. -/
theorem Tryz.slices_Sorted_keys_124_125 {H : Type} (b nn : Nat) (D0 : DataW H) (R : Value → Option (DataW H × List MemPlace)) (w : World) (hown : w.ownsMap Tryz.prog 9 R b nn D0) (hmax : Maps.size D0 ≤ maxLen) (hbytes : Maps.size D0 * 16 ≤ 140737488355328) :
    CallsIn Fence.wide 5 Tryz.prog 124 #[.func (.func 186) #[] #[.pointer (some ⟨w.heap.size, 0, none⟩)]] (w.alloc (.cells #[.map (some b)] 149)) fun e w' => ∃ (v : Value) (ss : List (List UInt8)), e = .returned v ∧ ss.Perm (strKeys D0) ∧
      w'.ownsRow (w.alloc (.cells #[.map (some b)] 149)).heap.size 9 1 v ss.length ((ss.mergeSort (fun x y => decide (x ≤ y))).map encStr) ∧ (v = .slice none 0 0 ↔ ss = []) ∧ Below (w.alloc (.cells #[.map (some b)] 149)).heap.size (w.alloc (.cells #[.map (some b)] 149)) w' := by
  have hbl := hown.lt
  have hseq : SeqGives Fence.wide 2 Tryz.prog 186 #[.pointer (some ⟨w.heap.size, 0, none⟩)] encStr (fun ss => ss.Perm (strKeys D0)) (Maps.size D0) (w.alloc (.cells #[.map (some b)] 149)) :=
    AnyZ.keys_gives (ρ := Tryz.keys125_ren) { Tryz.keys125 with } Fence.wide _ trivial rfl (by omega) w.heap.size b nn D0 _ (by simp) (by simp) (by
      obtain ⟨es, clock, hb, Ft, hs, hD⟩ := hown
      exact ⟨es, clock, (Below.heap_alloc _ _ b hbl).trans hb, Ft, hs, hD⟩)
  exact AnyZ.sorted_in Tryz.sorted124 Fence.wide 5 trivial trivial trivial trivial rfl (by omega) (Tryz.sorts124 _) (enters_of Tryz.func185 (by kernel_rfl) rfl) 186 #[.pointer (some ⟨w.heap.size, 0, none⟩)] trivial (enters_of Tryz.func186 (by kernel_rfl) rfl) _ _ hmax hbytes _ hseq

set_option maxHeartbeats 1000000 in
/-- **.. AND FOR THE nil MAP: nil.** -/
theorem Tryz.slices_Sorted_keys_nil_124_125 (w : World) :
    CallsIn Fence.wide 5 Tryz.prog 124 #[.func (.func 186) #[] #[.pointer (some ⟨w.heap.size, 0, none⟩)]] (w.alloc (.cells #[.map none] 149)) fun e w' => ∃ (v : Value) (ss : List (List UInt8)), e = .returned v ∧ ss = [] ∧
      w'.ownsRow (w.alloc (.cells #[.map none] 149)).heap.size 9 1 v ss.length ((ss.mergeSort (fun x y => decide (x ≤ y))).map encStr) ∧ (v = .slice none 0 0 ↔ ss = []) ∧ Below (w.alloc (.cells #[.map none] 149)).heap.size (w.alloc (.cells #[.map none] 149)) w' := by
  have hseq : SeqGives Fence.wide 2 Tryz.prog 186 #[.pointer (some ⟨w.heap.size, 0, none⟩)] encStr (fun ss : List (List UInt8) => ss = []) 0 (w.alloc (.cells #[.map none] 149)) :=
    AnyZ.keys_gives_nil (ρ := Tryz.keys125_ren) { Tryz.keys125 with } Fence.wide _ trivial rfl w.heap.size _ (by simp) (by simp)
  exact AnyZ.sorted_in Tryz.sorted124 Fence.wide 5 trivial trivial trivial trivial rfl (by omega) (Tryz.sorts124 _) (enters_of Tryz.func185 (by kernel_rfl) rfl) 186 #[.pointer (some ⟨w.heap.size, 0, none⟩)] trivial (enters_of Tryz.func186 (by kernel_rfl) rfl) _ 0 (Nat.zero_le _) (by omega) _ hseq

-- THE CALLER's WALK over 'slices.Sorted(maps.Keys(m))' (inside '(callsIn_wide (n := 6)).1'; 'have hfK : Fence.wide.fn 125 := trivial', 'have hfS : Fence.wide.fn 124 := trivial' ahead): THE TWO ARMS TO PASTE:
--   gi_wp2_with (first
--     | (gi_at_call 125; refine (Tryz.maps_Keys_125 _ _).mono ?_; rintro e w' ⟨rfl, rfl⟩)
--     | (gi_at_call 124; refine (Tryz.slices_Sorted_keys_124_125 b nn D0 R w hown hmax hbytes).mono ?_; rintro e w' ⟨v, ss, rfl, hS, hrow, hnil, hb⟩))

-- maps.Keys[map[uint32]uint64,uint32,uint64]: its keys are of no string's kind: not laid by this program
end Go.Proofs
