/-
  AE: what is asked of types, off the program's own table.
-/
import Derived.Test.YtlcfmdedkkmnmaaGreatDoorAxExec
namespace Go.Ax

def kindOf : TypeDesc → TK
  | .int k => .int k
  | .float k => .float k
  | .bool => .bool
  | .string => .str
  | .pointer e => .ptr e
  | .slice e => .slice e
  | .array n e => .arr n e
  | .map k e => .map k e
  | .struct fs => .struct (fs.toList.map fun f => (f.offset, f.type))
  | .func .. => .func
  | .interface _ => .iface
  | _ => .other

def isAggV : Value → Bool
  | .agg _ => true
  | _ => false

def tiOf (P : Program) (t : TypeId) : Option TI :=
  match P.underlying t, P.info? t with
  | some d, some i => match i.zero with
    | none => none
    | some z => match ofScals z.cells.toList with
      | none => none
      | some zs => if (isAggV z == (kindOf d).agg) && ((kindOf d).agg || i.size == 1) && zs.length == i.size then some { size := i.size, bytes := i.bytes, zero := zs, kind := kindOf d } else none
  | _, _ => none

theorem kindOf_ok (d : TypeDesc) : KindOK (kindOf d) d := by
  cases d <;> simp [kindOf, KindOK]

theorem tiOf_ok {P : Program} {t : TypeId} {ti : TI} (h : tiOf P t = some ti) : TIok P t ti := by
  unfold tiOf at h
  split at h
  · rename_i d i hd hi
    split at h
    · simp at h
    · rename_i z hz
      split at h
      · simp at h
      · rename_i zs hzs
        split at h
        · rename_i hc
          simp only [Option.some.injEq] at h
          subst h
          simp only [Bool.and_eq_true, beq_iff_eq, Bool.or_eq_true] at hc
          obtain ⟨⟨h0, h1⟩, h2⟩ := hc
          refine ⟨⟨d, hd, kindOf_ok d⟩, ⟨i, z, hi, rfl, rfl, hz, hzs, ?_⟩, fun ha => ?_, h2⟩
          · show if (kindOf d).agg then _ else _
            rw [← h0]
            cases z <;> simp [isAggV, Value.cells]
          · rcases h1 with h1 | h1
            · exact absurd h1 (by rw [show (kindOf d).agg = false from ha]; simp)
            · exact h1
        · simp at h
  · simp at h

/-- A table of types that is the program's. -/
def tabOK (P : Program) (tab : T TI) (keys : List TypeId) : Bool := keys.all fun t => match tab.get t, tiOf P t with
  | some a, some b => decide (a.size = b.size) && decide (a.bytes = b.bytes) && AV.beqs a.zero b.zero && decide (a.kind = b.kind)
  | _, _ => false

def T.keys {α : Type} : T α → List Nat
  | .leaf => []
  | .node v l r => (match v with | some _ => [0] | none => []) ++ l.keys.map (fun k => 2 * k + 1) ++ r.keys.map (fun k => 2 * k + 2)

theorem T.mem_keys {α : Type} {t : T α} : ∀ {k : Nat} {v : α}, t.get k = some v → k ∈ t.keys := by
  induction t with
  | leaf => intro k v h; rw [T.get_leaf] at h; simp at h
  | node x l r ihl ihr =>
    intro k v h
    cases k with
    | zero => simp only [T.get] at h; subst h; simp [T.keys]
    | succ k =>
      simp only [T.get] at h
      simp only [T.keys, List.mem_append, List.mem_map]
      split at h
      · exact .inl (.inr ⟨_, ihl h, by omega⟩)
      · exact .inr ⟨_, ihr h, by omega⟩

theorem tab_ok {P : Program} {tab : T TI} (h : tabOK P tab tab.keys = true) {t : TypeId} {ti : TI} (ht : tab.get t = some ti) : TIok P t ti := by
  have := List.all_eq_true.1 h t (T.mem_keys ht)
  rw [ht] at this
  split at this
  · rename_i a b h1 h2
    simp only [Option.some.injEq] at h1
    subst h1
    simp only [Bool.and_eq_true, decide_eq_true_eq] at this
    obtain ⟨⟨⟨e1, e2⟩, e3⟩, e4⟩ := this
    have e3 := AV.beqs_eq e3
    have : ti = b := by cases ti; cases b; simp_all
    subst this
    exact tiOf_ok h2
  · simp at this

/-- Field types are known. -/
def fieldsOK (tab : T TI) : Bool := tab.keys.all fun t => match tab.get t with
  | some { kind := .struct fs, .. } => fs.all fun x => (tab.get x.2).isSome
  | _ => true

theorem fields_ok {tab : T TI} (h : fieldsOK tab = true) {t : TypeId} {ti : TI} {fs : List (Nat × TypeId)} (ht : tab.get t = some ti) (hk : ti.kind = .struct fs) {x : Nat × TypeId} (hx : x ∈ fs) : ∃ ti', tab.get x.2 = some ti' := by
  have := List.all_eq_true.1 h t (T.mem_keys ht)
  rw [ht] at this
  obtain ⟨s, b, z, k⟩ := ti
  subst hk
  simp only [List.all_eq_true] at this
  exact Option.isSome_iff_exists.1 (this x hx)
end Go.Ax
