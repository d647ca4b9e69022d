/-
  GateNil: the contract of its row.
-/
import Derived.Test.YtlcfmdedkkmnmaaGreatDoorAxGate
import Derived.ChangeArms
import Derived.ChangeShapes
import Derived.Deep.Slices
import Derived.WalkKit
import Derived.ProofKit
import Derived.OpenShut
import Derived.Deep.DeepHandedRow
import Derived.Lib.LaidTab
import Derived.Stop.LaidErr
namespace Go.Ax.Seat
open Go Go.Proofs Go.ChangeShapes Go.WideShapes Go.ChangeAt Go.RowKit
open Go.Proofs.YtlcfmdedkkmnmaaGreatDoor
set_option maxRecDepth 100000

theorem gTab : Tryz.prog.globalNamed "equerry/crc.halves" = some 1 := by kernel_rfl
theorem gTabType : (Tryz.prog.globals[1]?).map (·.type) = some 318 := by kernel_rfl
theorem cellsTab : Tryz.prog.cellsOf 318 = 16 := by kernel_rfl
theorem cellsU32 : Tryz.prog.cellsOf 23 = 1 := by kernel_rfl
theorem fTab : Tryz.prog.globalNamed "equerry/frame.fields" = some 0 := by kernel_rfl
theorem fTabType : (Tryz.prog.globals[0]?).map (·.type) = some 264 := by kernel_rfl
theorem cellsF : Tryz.prog.cellsOf 264 = 18 := by kernel_rfl
theorem cellsU8 : Tryz.prog.cellsOf 5 = 1 := by kernel_rfl

def halvesZ : List Int := [0, 498536548, 997073096, 651767980, 1994146192, 1802195444, 1303535960, 1342533948, 3988292384, 4027552580, 3604390888, 3412177804, 2607071920, 2262029012, 2685067896, 3183342108]
def fieldsZ : List Int := [0, 17, 7, 21, 5, 31, 7, 7, 7, 7, 7, 5, 21, 4, 4, 1, 4, 15]

theorem table {W : World} (h : laidMetH Tryz.prog Rows.gateNilRow.laid W) : Lib.TabIs Tryz.prog W "equerry/crc.halves" .u32 halvesZ :=
  Lib.tabIs_of_head gTab gTabType Tryz.underlying318 Tryz.underlying23 cellsU32 cellsTab h
theorem laid_five {W : World} (h : laidMet Tryz.prog Rows.gateNilRow.laid W) : laidMet Tryz.prog (Rows.gateNilRow.laid.drop 5) W :=
  laidMet.tail (laidMet.tail (laidMet.tail (laidMet.tail (laidMet.tail h))))
theorem tableF {W : World} (h : laidMetH Tryz.prog Rows.gateNilRow.laid W) : Lib.TabIs Tryz.prog W "equerry/frame.fields" .u8 fieldsZ :=
  Lib.tabIs_of_head fTab fTabType Tryz.underlying264 Tryz.underlying5 cellsU8 cellsF (laid_five h)

theorem tab_glob {W : World} {name : String} {k : IntKind} {zs : List Int} {g : Nat} {cells : List AV} (hg : Tryz.prog.globalNamed name = some g) (h : Lib.TabIs Tryz.prog W name k zs) (hz : 0 < zs.length) (hc : cells = zs.map fun n => AV.int k n) :
    Gh.none.kind g = .foreign ∧ g < W.heap.size ∧ ∃ c : Nat → Value, (∀ i, i < cells.length → W.cell? ⟨g, i, none⟩ = some (c i)) ∧ ∀ i (h : i < cells.length), VRel Gh.none W cells[i] (c i) := by
  subst hc
  have hcell : ∀ i, i < zs.length → W.cell? ⟨g, i, none⟩ = some (.int k (zs.getD i 0)) := fun i hi => h.cell hg i hi
  refine ⟨rfl, World.block_lt_of_cell? W _ (hcell 0 hz), fun i => .int k (zs.getD i 0), fun i hi => hcell i (by simpa using hi), fun i hi => ?_⟩
  have hi' : i < zs.length := by simpa using hi
  simp only [List.getElem_map]
  rw [show zs.getD i 0 = zs[i] by simp [hi']]
  exact .int _ _

theorem repS_of {E : Env} (hE : E.globs = globs) {W : World} (h : Lib.TabIs Tryz.prog W "equerry/crc.halves" .u32 halvesZ) (hF : Lib.TabIs Tryz.prog W "equerry/frame.fields" .u8 fieldsZ) : RepS E Gh.none {} W where
  obj id b e := by simp [Gh.none] at e
  objNew _ _ := rfl
  loc f t g b e := by simp [Gh.none] at e
  locNew _ _ _ _ := rfl
  tok g n b off _ e := by simp [Gh.none] at e
  tokNew _ _ _ := rfl
  tokTop _ _ _ _ _ := rfl
  fresh _ _ := rfl
  glob g cells e := by
    rw [hE] at e
    unfold globs at e
    split at e
    · rename_i hg
      subst hg
      obtain rfl := Option.some.inj e
      exact tab_glob gTab h (by decide) rfl
    · split at e
      · rename_i hg
        subst hg
        obtain rfl := Option.some.inj e
        exact tab_glob fTab hF (by decide) rfl
      · simp at e

theorem int_read {w : World} {r : Reach} {b0 : Nat} {t : TypeId} {k : IntKind} {v : Value} (ht : Tryz.prog.underlying t = some (.int k)) (h : Value.okWide Tryz.prog w r b0 t v) : ∃ n, v = .int k n := by
  unfold Value.okWide at h
  rw [ht] at h
  simp only at h
  unfold Cell.okWide Cell.ok at h
  rw [ht] at h
  cases v <;> simp at h
  exact ⟨_, by rw [h.1]⟩

theorem raw_read {w : World} {r : Reach} {b0 : Nat} {t e : TypeId} {v : Value} (ht : Tryz.prog.underlying t = some (.slice e)) (h : Value.okWide Tryz.prog w r b0 t v) : ∃ a, RawAV a ∧ VRel Gh.none w a v := by
  unfold Value.okWide at h
  rw [ht] at h
  simp only at h
  unfold Cell.okWide Cell.ok at h
  rw [ht] at h
  cases v <;> simp at h
  rename_i a len cap
  cases a with
  | none =>
    split at h <;> simp_all
    exact ⟨.nils, .nil, .nils⟩
  | some a =>
    obtain ⟨b, o, s⟩ := a
    have hs : s = none := h.2.2.2.1
    subst hs
    exact ⟨.slice .no len [], .some len, .slice .no len [] b o cap (fun _ => undef) h.1 (fun i hi => by simp at hi) (fun i hi => by simp at hi) (fun h => absurd rfl h) trivial⟩

theorem laid_out : laidOutB Tryz.prog = true := by kernel_rfl
theorem readRaw : Tryz.prog.readableRec 22 = true := by kernel_rfl
theorem readU32 : Tryz.prog.readableRec 23 = true := by kernel_rfl
theorem readU64 : Tryz.prog.readableRec 24 = true := by kernel_rfl
theorem rowsRaw : 22 < Tryz.prog.types.size := of_decide_eq_true (by kernel_rfl)
theorem rowsU32 : 23 < Tryz.prog.types.size := of_decide_eq_true (by kernel_rfl)
theorem rowsU64 : 24 < Tryz.prog.types.size := of_decide_eq_true (by kernel_rfl)

theorem contract (H : Type) (enc : TypeId × Value → H) (W : World) (base : Nat) (args : Array Value) (ds gs : List (DataW H)) (before : List MemPlace)
    (hval : ∀ (j : Nat) t v, Tryz.f3.params[j]? = some t → args[j]? = some v → Value.okWide Tryz.prog W .any base t v)
    (hW : DataW.Whole enc Tryz.prog Tryz.f3.params.toList Rows.gateNilSpec.vars false W args.toList ds gs before) (hL : laidMetH Tryz.prog Rows.gateNilRow.laid W) :
    Calls Tryz.prog 3 args W fun e W' => ∃ v, e = .returned v ∧ Rows.gateNilSpec.post enc Tryz.prog Tryz.f3 false true false false W args v W' := by
  have hW' := hW
  obtain ⟨p, q, hA0, hV, rfl, hfz, hnd⟩ := hW
  have hA : DataW.TrodAll enc Tryz.prog W 0 (fun _ => true) true Tryz.f3.params.toList args.toList ds p := hA0
  rw [Tryz.params3] at hA hval
  obtain ⟨v0, vs0, d0, ds0, p0, q0, hargs, rfl, rfl, h0, r0⟩ := trodAll_cons hA
  obtain ⟨v1, vs1, d1, ds1, p1, q1, rfl, rfl, rfl, h1, r1⟩ := trodAll_cons r0
  obtain ⟨v2, vs2, d2, ds2, p2, q2, rfl, rfl, rfl, h2, r2⟩ := trodAll_cons r1
  obtain ⟨v3, vs3, d3, ds3, p3, q3, rfl, rfl, rfl, h3, r3⟩ := trodAll_cons r2
  obtain ⟨rfl, rfl, rfl⟩ := trodAll_nil r3
  obtain rfl : args = #[v0, v1, v2, v3] := by cases args; simp_all
  obtain ⟨rfl, rfl⟩ := trodVars_none hV
  obtain ⟨raw, hraw, hv⟩ := raw_read Tryz.underlying22 (hval 0 22 v0 rfl rfl)
  obtain ⟨e, rfl⟩ := int_read Tryz.underlying23 (hval 1 23 v1 rfl rfl)
  obtain ⟨nw, rfl⟩ := int_read Tryz.underlying24 (hval 2 24 v2 rfl rfl)
  obtain ⟨n, rfl⟩ := int_read Tryz.underlying24 (hval 3 24 v3 rfl rfl)
  clear hA0
  simp only [List.append_nil] at hW'
  have hlt : ∀ x ∈ p0 ++ (p1 ++ (p2 ++ p3)), x.block < W.heap.size := fun x hx => hW'.lt x hx
  refine (gate_calls hraw (repS_of (E := E1) rfl (table hL) (tableF hL)) hv).mono fun r W' ⟨he, hold, hsz, hos, hout⟩ => ?_
  subst he
  refine ⟨_, rfl, ?_⟩
  have stays : ∀ x : MemPlace, x.block < W.heap.size → W.sameAt W' x := fun x hb => by
    cases x with
    | cell b o => exact World.cell?_of_block (w := W) (hold b hb)
    | map b => exact hold b hb
  have hagain : ∀ sp : Nat → Bool, (∀ x ∈ p0 ++ (p1 ++ (p2 ++ p3)), sp x.block = true) → DataW.TrodAll enc Tryz.prog W' 0 sp true [22, 23, 24, 24] [v0, .int .u32 e, .int .u64 nw, .int .u64 n] [d0, d1, d2, d3] (p0 ++ (p1 ++ (p2 ++ p3))) := by
    intro sp hsp
    have k0 := WideElems.Trod_stays laid_out readRaw rowsRaw h0 (fun x hx => stays x (hlt x (by simp [hx]))) (fun x hx => hsp x (by simp [hx]))
    have k1 := WideElems.Trod_stays laid_out readU32 rowsU32 h1 (fun x hx => stays x (hlt x (by simp [hx]))) (fun x hx => hsp x (by simp [hx]))
    have k2 := WideElems.Trod_stays laid_out readU64 rowsU64 h2 (fun x hx => stays x (hlt x (by simp [hx]))) (fun x hx => hsp x (by simp [hx]))
    have k3 := WideElems.Trod_stays laid_out readU64 rowsU64 h3 (fun x hx => stays x (hlt x (by simp [hx]))) (fun x hx => hsp x (by simp [hx]))
    have h2 : DataW.TrodAll enc Tryz.prog W' 0 sp true [22, 23, 24, 24] [v0, .int .u32 e, .int .u64 nw, .int .u64 n] [d0, d1, d2, d3] (p0 ++ (p1 ++ (p2 ++ (p3 ++ [])))) :=
      trodAll_cons_mk k0 (trodAll_cons_mk k1 (trodAll_cons_mk k2 (trodAll_cons_mk k3 trodAll_mk0)))
    simpa using h2
  have hres : ∀ (b : Nat) (sp : Nat → Bool) (hd : Bool), DataW.TrodAll enc Tryz.prog W' b sp hd Tryz.f3.resultTypes.toList ((Value.bool true).resultList Tryz.f3.resultTypes.size) [.lit (.bool true)] [] := fun _ _ _ => trodAll_cons_mk (shut_bool Tryz.underlying4 _) trodAll_mk0
  have hkept : W.keptBut W' (fun _ => False) := by
    refine ⟨hos, hout, fun i hi => ?_⟩
    rw [hold i hi]
    split
    · rename_i h1 h2
      rw [h1] at h2
      simp only [Option.some.injEq, Obj.cells.injEq] at h2
      obtain ⟨rfl, rfl, rfl⟩ := h2
      exact ⟨rfl, rfl, rfl, fun _ _ => rfl⟩
    · rename_i h1 h2
      rw [h1] at h2
      simp only [Option.some.injEq, Obj.map.injEq] at h2
      obtain ⟨rfl, rfl⟩ := h2
      exact .inr ⟨rfl, rfl⟩
    · rfl
  have hps : Tryz.f3.params.toList = [22, 23, 24, 24] := by rw [Tryz.params3]
  refine ⟨[d0, d1, d2, d3], [], p0 ++ (p1 ++ (p2 ++ p3)), [], p0 ++ (p1 ++ (p2 ++ p3)), [], hW', hres _ _ _, ?_, rfl, World.keptBut_mono (fun _ h => h.elim) hkept, fun _ => ?_⟩
  · rw [hps]; exact hagain _ fun x hx => by simpa using hlt x hx
  · refine ⟨ok_one (by kernel_rfl) rfl (okWide_bool_mk Tryz.underlying4 _), _, [], [] ++ (p0 ++ (p1 ++ (p2 ++ p3))), ⟨[] ++ (p0 ++ (p1 ++ (p2 ++ p3))), [], trodAll_append (by rw [hps]; exact hagain _ fun _ _ => rfl) (hres _ _ _), rfl, by simp, ?_, fun h => by simp at h⟩, fun x hx _ => by simpa using hx⟩
    · intro b off hp
      have hb := hlt _ (by simpa using hp)
      have := hfz b off (by simpa using hp)
      simp only [World.frozen?] at this ⊢
      rw [hold b hb]
      exact this
end Go.Ax.Seat
