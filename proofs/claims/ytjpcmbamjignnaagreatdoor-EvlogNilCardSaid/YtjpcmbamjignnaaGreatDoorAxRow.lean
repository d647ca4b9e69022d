/-
  EvlogNil: the contract of its row.
-/
import Derived.Test.YtjpcmbamjignnaaGreatDoorAxRead
import Derived.WalkKit
import Derived.ProofKit
import Derived.OpenShut
import Derived.Deep.DeepHandedRow
import Derived.Lib.LaidTab
namespace Go.Ax.Seat
open Go Go.Proofs Go.ChangeShapes Go.WideShapes Go.ChangeAt Go.RowKit
open Go.Proofs.YtjpcmbamjignnaaGreatDoor
set_option maxRecDepth 100000

theorem gTab : Tryz.prog.globalNamed "equerry/crc.halves" = some 1 := by kernel_rfl
theorem gTabType : (Tryz.prog.globals[1]?).map (·.type) = some 329 := by kernel_rfl
theorem cells329 : Tryz.prog.cellsOf 329 = 16 := by kernel_rfl
theorem cells85 : Tryz.prog.cellsOf 85 = 1 := by kernel_rfl

def halvesZ : List Int := [0, 498536548, 997073096, 651767980, 1994146192, 1802195444, 1303535960, 1342533948, 3988292384, 4027552580, 3604390888, 3412177804, 2607071920, 2262029012, 2685067896, 3183342108]

/-- What the row's list gives. -/
theorem table {W : World} (h : laidMetH Tryz.prog Rows.evlogNilRow.laid W) : Lib.TabIs Tryz.prog W "equerry/crc.halves" .u32 halvesZ :=
  Lib.tabIs_of_head gTab gTabType Tryz.underlying329 Tryz.underlying85 cells85 cells329 h

theorem repS_of {E : Env} (hE : E.globs = globs) {W : World} (h : Lib.TabIs Tryz.prog W "equerry/crc.halves" .u32 halvesZ) : RepS E Gh.none {} W where
  obj id b e := by simp [Gh.none] at e
  objNew _ _ := rfl
  loc f t g b e := by simp [Gh.none] at e
  locNew _ _ _ _ := rfl
  tok g n b off _ e := by simp [Gh.none] at e
  tokNew _ _ _ := rfl
  tokTop _ _ _ _ _ := rfl
  fresh _ _ := rfl
  glob g cells e := by
    rw [hE] at e
    unfold globs at e
    split at e
    · rename_i hg
      subst hg
      obtain rfl := Option.some.inj e
      have hc : ∀ i, i < 16 → W.cell? ⟨1, i, none⟩ = some (.int .u32 (halvesZ.getD i 0)) := fun i hi => h.cell gTab i hi
      refine ⟨rfl, World.block_lt_of_cell? W _ (hc 0 (by decide)), fun i => .int .u32 (halvesZ.getD i 0), fun i hi => hc i hi, fun i hi => ?_⟩
      have hi' : i < 16 := hi
      have : halves[i]'hi = .int .u32 (halvesZ.getD i 0) := by
        have e1 : halves = halvesZ.map fun n => AV.int .u32 n := rfl
        have hz : i < halvesZ.length := hi'
        simp only [e1, List.getElem_map]
        rw [show halvesZ.getD i 0 = halvesZ[i] by simp [hz]]
      rw [this]
      exact .int _ _
    · simp at e

theorem laid_out : laidOutB Tryz.prog = true := by kernel_rfl
theorem readable90 : Tryz.prog.readableRec 90 = true := by kernel_rfl
theorem rows90 : 90 < Tryz.prog.types.size := of_decide_eq_true (by kernel_rfl)

theorem contract (H : Type) (enc : TypeId × Value → H) (W : World) (base : Nat) (args : Array Value) (ds gs : List (DataW H)) (before : List MemPlace)
    (hval : ∀ (j : Nat) t v, Tryz.f6.params[j]? = some t → args[j]? = some v → Value.okWide Tryz.prog W .any base t v)
    (hW : DataW.Whole enc Tryz.prog Tryz.f6.params.toList Rows.evlogNilSpec.vars false W args.toList ds gs before) (hL : laidMetH Tryz.prog Rows.evlogNilRow.laid W) :
    Calls Tryz.prog 6 args W fun e W' => ∃ v, e = .returned v ∧ Rows.evlogNilSpec.post enc Tryz.prog Tryz.f6 false true false false W args v W' := by
  have hW' := hW
  obtain ⟨p, q, hA0, hV, rfl, hfz, hnd⟩ := hW
  have hA : DataW.TrodAll enc Tryz.prog W 0 (fun _ => true) true Tryz.f6.params.toList args.toList ds p := hA0
  rw [Tryz.params6] at hA hval
  obtain ⟨v0, vs0, d0, ds0, p0, q0, hargs, rfl, rfl, h0, r0⟩ := trodAll_cons hA
  obtain ⟨rfl, rfl, rfl⟩ := trodAll_nil r0
  obtain rfl : args = #[v0] := by cases args; simp_all
  obtain ⟨rfl, rfl⟩ := trodVars_none hV
  obtain ⟨kd, pb, sq, nw, t, N, K, F, Kp, hF, hK, hv⟩ := arg_read (hval 0 90 v0 rfl rfl) h0
  clear hA0
  simp only [List.append_nil] at hW'
  have hlt : ∀ x ∈ p0, x.block < W.heap.size := fun x hx => hW'.lt x hx
  refine (evlogNil_calls hF hK (repS_of (E := E4) rfl (table hL)) hv).mono fun e W' ⟨he, hold, hsz, hos, hout⟩ => ?_
  subst he
  refine ⟨_, rfl, ?_⟩
  have hagain : ∀ sp : Nat → Bool, (∀ x ∈ p0, sp x.block = true) → DataW.TrodAll enc Tryz.prog W' 0 sp true [90] [v0] [d0] p0 := by
    intro sp hsp
    have hsame : ∀ x ∈ p0, W.sameAt W' x := fun x hx => by
      have hb := hlt x hx
      cases x with
      | cell b o => exact World.cell?_of_block (w := W) (hold b hb)
      | map b => exact hold b hb
    have := WideElems.Trod_stays laid_out readable90 rows90 h0 hsame (fun x hx => hsp x hx)
    have h2 : DataW.TrodAll enc Tryz.prog W' 0 sp true [90] [v0] [d0] (p0 ++ []) := trodAll_cons_mk this trodAll_mk0
    simpa using h2
  have hres : ∀ (b : Nat) (sp : Nat → Bool) (hd : Bool), DataW.TrodAll enc Tryz.prog W' b sp hd Tryz.f6.resultTypes.toList ((Value.bool true).resultList Tryz.f6.resultTypes.size) [.lit (.bool true)] [] := fun _ _ _ => trodAll_cons_mk (shut_bool Tryz.underlying4 _) trodAll_mk0
  have hkept : W.keptBut W' (fun _ => False) := by
    refine ⟨hos, hout, fun i hi => ?_⟩
    rw [hold i hi]
    split
    · rename_i h1 h2
      rw [h1] at h2
      simp only [Option.some.injEq, Obj.cells.injEq] at h2
      obtain ⟨rfl, rfl, rfl⟩ := h2
      exact ⟨rfl, rfl, rfl, fun _ _ => rfl⟩
    · rename_i h1 h2
      rw [h1] at h2
      simp only [Option.some.injEq, Obj.map.injEq] at h2
      obtain ⟨rfl, rfl⟩ := h2
      exact .inr ⟨rfl, rfl⟩
    · rfl
  have hps : Tryz.f6.params.toList = [90] := by rw [Tryz.params6]
  refine ⟨[d0], [], p0, [], p0, [], hW', hres _ _ _, ?_, rfl, World.keptBut_mono (fun _ h => h.elim) hkept, fun _ => ?_⟩
  · rw [hps]; exact hagain _ fun x hx => by simpa using hlt x hx
  · refine ⟨ok_one (by kernel_rfl) rfl (okWide_bool_mk Tryz.underlying4 _), _, [], [] ++ p0, ⟨[] ++ p0, [], trodAll_append (by rw [hps]; exact hagain _ fun _ _ => rfl) (hres _ _ _), rfl, by simp, ?_, fun h => by simp at h⟩, fun x hx _ => by simpa using hx⟩
    · intro b off hp
      have hb := hlt _ hp
      have := hfz b off (by simpa using hp)
      simp only [World.frozen?] at this ⊢
      rw [hold b hb]
      exact this
end Go.Ax.Seat
