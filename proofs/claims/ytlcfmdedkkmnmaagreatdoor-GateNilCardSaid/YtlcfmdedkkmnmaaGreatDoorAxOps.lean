/-
  AE: the operations that look at no memory, and those that look at it and leave it, answer as the model's do.
-/
import Derived.Test.YtlcfmdedkkmnmaaGreatDoorAxGrow
import Derived.Laws.Cells
import Derived.Laws.Entries
namespace Go.Ax

def KindOK : TK → TypeDesc → Prop
  | .int k, d => d = .int k
  | .float k, d => d = .float k
  | .bool, d => d = .bool
  | .str, d => d = .string
  | .ptr e, d => d = .pointer e
  | .slice e, d => d = .slice e
  | .arr n e, d => d = .array n e
  | .map k e, d => d = .map k e
  | .struct fs, d => ∃ fields : Array Field, d = .struct fields ∧ fields.toList.map (fun f => (f.offset, f.type)) = fs
  | .func, d => ∃ a b c, d = .func a b c
  | .iface, d => ∃ ms, d = .interface ms
  | .other, d => match d with
    | .struct _ | .array .. => False
    | _ => True

/-- What AE knows of a type is so. -/
structure TIok (P : Program) (t : TypeId) (ti : TI) : Prop where
  desc : ∃ d, P.underlying t = some d ∧ KindOK ti.kind d
  info : ∃ i z, P.info? t = some i ∧ i.size = ti.size ∧ i.bytes = ti.bytes ∧ i.zero = some z ∧ ofScals z.cells.toList = some ti.zero ∧ (if ti.kind.agg then z = .agg z.cells else z.cells = #[z])
  one : ti.kind.agg = false → ti.size = 1
  zlen : ti.zero.length = ti.size

/-- A function with a body that may be entered. -/
def Enterable (P : Program) (f : FuncId) : Prop := ∃ fn, P.funcs[f]? = some fn ∧ fn.body.isSome = true ∧ (fn.name == "runtime.NumGoroutine") = false

/-- A way to answer calls is right. -/
def CallOK (P : Program) (E : Env) (call : CallF) : Prop :=
  ∀ f args σ v σ', call f args σ = some (v, σ') → Enterable P f ∧
    ∀ Γ w (cargs : Array Value), RepS E Γ σ w → VsRel Γ w args cargs.toList →
      Calls P f cargs w fun e w' => ∃ cv Γ', e = .returned cv ∧ Ext σ.nfr Γ w Γ' w' ∧ RepS E Γ' σ' w' ∧ VRel Γ' w' v cv ∧ σ.nfr ≤ σ'.nfr

structure EnvOK (P : Program) (E : Env) : Prop where
  ti : ∀ t ti, E.ti t = some ti → TIok P t ti
  fn : ∀ f fn, E.fn f = some fn → P.funcs[f]? = some fn ∧ (fn.name == "runtime.NumGoroutine") = false
  ov : ∀ f h, E.ov f = some h → CallOK P E fun g args σ => if g = f then h args σ else none
  ext : ∀ f h, E.ext f = some h → ∀ args v, h args = some v → ∀ Γ w (cargs : Array Value), VsRel Γ w args cargs.toList → ∃ cv, (callFunc f cargs).run P w = .ok (.value cv) w ∧ VRel Γ w v cv
  flat : ∀ t, E.flat t = true → ∀ xs ys r, scalarsEq xs ys = some r → ∀ Γ w (cx cy : Array Value), VsRel Γ w xs cx.toList → VsRel Γ w ys cy.toList →
    (Op.equal t (.agg cx) (.agg cy)).run P w = .ok r w ∧ P.eqGuardType P.depth t = false
  mixed : P.follows .mixedOrders = true

section
variable {P : Program} {E : Env} {Γ : Gh} {w : World}

theorem ofScal_rel {v : Value} {a : AV} (h : ofScal v = some a) : VRel Γ w a v := by
  unfold ofScal at h
  split at h <;> simp only [Option.some.injEq, reduceCtorEq] at h <;> subst h <;> constructor

theorem ofScals_rel : ∀ {vs : List Value} {as : List AV}, ofScals vs = some as → VsRel Γ w as vs
  | [], as, h => by simp [ofScals] at h; subst h; exact .nil
  | v :: vs, as, h => by
    simp only [ofScals] at h
    split at h
    · rename_i x xs hx hxs
      simp only [Option.some.injEq] at h
      subst h
      exact .cons (ofScal_rel hx) (ofScals_rel hxs)
    · simp at h

theorem ofVal_rel {v : Value} {a : AV} (h : ofVal v = some a) : VRel Γ w a v := by
  unfold ofVal at h
  split at h
  · rename_i cs
    cases hs : ofScals cs.toList with
    | none => simp [hs] at h
    | some as =>
      simp only [hs, Option.map_some, Option.some.injEq] at h
      subst h
      exact vrel_agg (ofScals_rel hs)
  · exact ofScal_rel h

theorem ofScal_one {v : Value} {a : AV} (h : ofScal v = some a) : v.cells = #[v] ∧ a.cells = [a] := by
  unfold ofScal at h
  split at h <;> simp only [Option.some.injEq, reduceCtorEq] at h <;> subst h <;> exact ⟨rfl, rfl⟩

/-- The zero value of a type. -/
theorem TIok.zero {t : TypeId} {ti : TI} (h : TIok P t ti) : ∃ z, (∀ u, (zeroValue t).run P u = .ok z u) ∧ VsRel Γ w ti.zero z.cells.toList ∧ z.cells.size = ti.size ∧
    ∀ a, ti.ofCells ti.zero = some a → VRel Γ w a z := by
  obtain ⟨i, z, h1, h2, h3, h4, h5, h6⟩ := h.info
  have hz : VsRel Γ w ti.zero z.cells.toList := ofScals_rel h5
  refine ⟨z, fun u => ?_, hz, ?_, fun a ha => ?_⟩
  · simp [zeroValue, typeInfo, h1, h4]
  · have := hz.length; simp at this; rw [this]; exact h.zlen
  · unfold TI.ofCells at ha
    cases hk : ti.kind.agg with
    | true =>
      simp only [hk, if_true, Option.some.injEq] at ha h6
      subst ha
      rw [h6]; exact vrel_agg hz
    | false =>
      simp only [hk, Bool.false_eq_true, if_false] at ha h6
      split at ha
      · rename_i v hv
        simp only [Option.some.injEq] at ha
        subst ha
        rw [hv, h6] at hz
        cases hz with
        | cons h _ => exact h
      · simp at ha

theorem TIok.underlying {t : TypeId} {ti : TI} (h : TIok P t ti) : ∃ d, (∀ u, (Go.underlying t).run P u = .ok d u) ∧ KindOK ti.kind d ∧ P.underlying t = some d := by
  obtain ⟨d, h1, h2⟩ := h.desc
  exact ⟨d, fun u => run_underlying h1 u, h2, h1⟩

theorem TIok.size {t : TypeId} {ti : TI} (h : TIok P t ti) (u : World) : (sizeOf t).run P u = .ok ti.size u := by
  obtain ⟨i, z, h1, h2, _⟩ := h.info
  simp [sizeOf, typeInfo, h1, h2]

theorem TIok.bytes {t : TypeId} {ti : TI} (h : TIok P t ti) : ∃ i, (∀ u, (typeInfo t).run P u = .ok i u) ∧ i.bytes = ti.bytes := by
  obtain ⟨i, z, h1, h2, h3, _⟩ := h.info
  exact ⟨i, fun u => by simp [typeInfo, h1], h3⟩

theorem TIok.isAgg {t : TypeId} {ti : TI} (h : TIok P t ti) (u : World) : (Go.isAgg t).run P u = .ok ti.kind.agg u := by
  obtain ⟨d, h1, h2, _⟩ := h.underlying
  simp only [Go.isAgg, Sem.run_bind, h1, Result.andThen_ok]
  cases hk : ti.kind <;> simp only [hk, KindOK] at h2
  case struct => obtain ⟨f, rfl, _⟩ := h2; rfl
  case func => obtain ⟨a, b, c, rfl⟩ := h2; rfl
  case iface => obtain ⟨ms, rfl⟩ := h2; rfl
  case other => cases d <;> simp_all [TK.agg]
  all_goals subst h2; rfl

/-- A part of cells. -/
theorem part_run {t : TypeId} {ti : TI} (h : TIok P t ti) {cs l : List AV} {arr : Array Value} {off : Nat} {v : AV} (hr : VsRel Γ w cs arr.toList) (hc : cut cs off ti.size = some l) (hv : ti.ofCells l = some v) (u : World) :
    ∃ cv, (part t arr off).run P u = .ok cv u ∧ VRel Γ w v cv := by
  unfold cut at hc
  split at hc
  · rename_i hle
    simp only [Option.some.injEq] at hc
    subst hc
    unfold TI.ofCells at hv
    cases hk : ti.kind.agg with
    | true =>
      simp only [hk, if_true, Option.some.injEq] at hv
      subst hv
      refine ⟨.agg (arr.extract off (off + ti.size)), ?_, ?_⟩
      · simp [part, h.isAgg, hk, h.size]
      · refine vrel_agg ?_
        have := (hr.drop off).take ti.size
        simpa [Array.toList_extract, List.extract_eq_take_drop] using this
    | false =>
      simp only [hk, Bool.false_eq_true, if_false] at hv
      split at hv
      · rename_i x hx
        simp only [Option.some.injEq] at hv
        subst hv
        have h1 : cs[off]? = some x := by
          have : ((cs.drop off).take ti.size)[0]? = some x := by rw [hx]; rfl
          rw [List.getElem?_take] at this
          split at this
          · simpa using this
          · simp at this
        obtain ⟨c, hc1, hc2⟩ := hr.getElem? h1
        refine ⟨c, ?_, hc2⟩
        have hc1' : arr[off]? = some c := by simpa using hc1
        simp [part, h.isAgg, hk, hc1']
      · simp at hv
  · simp at hc
end

end Go.Ax
