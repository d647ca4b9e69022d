/-
  AE: what it means that a world of the model's is as AE's memory says (the ghost 'Gh' tells which block is what), and that this lasts.
-/
import Derived.Test.YtlcfmdedkkmnmaaGreatDoorAxDef
import Derived.Laws.World
import Derived.Laws.Sem
import Derived.MapKept
namespace Go.Ax

/-- What a block of the model's memory is to AE: nothing of its own (never written); an object; a variable of a frame's own; a row of which the first n cells are never written again. -/
inductive Kind where
  | foreign | obj (id : Nat) | loc (f t g : Nat) | pure (n : Nat) (own : Option Nat)

structure Gh where
  obj : Nat → Option Nat
  loc : Nat → Nat → Nat → Option Nat
  tok : Nat → Nat → Option (Nat × Nat)
  kind : Nat → Kind

def Gh.none : Gh := ⟨fun _ => Option.none, fun _ _ _ => Option.none, fun _ _ => Option.none, fun _ => .foreign⟩

/-- The first n cells of a block are never written again. -/
def Gh.imm (Γ : Gh) (b n : Nat) : Prop := Γ.kind b = .foreign ∨ ∃ m o, Γ.kind b = .pure m o ∧ n ≤ m

def PermOK (Γ : Gh) (w : World) (n : Nat) (b off len cap : Nat) : Perm → Prop
  | .no => True
  | .exact => cap = len
  | .opn g sz => 0 < sz ∧ n = len * sz ∧ Γ.tok g n = some (b, off) ∧ ∃ e m, w.shape? b = some (e, m) ∧ off + cap * sz ≤ m

/-- A value of the model's is AE's. -/
inductive VRel (Γ : Gh) (w : World) : AV → Value → Prop where
  | bool (b) : VRel Γ w (.bool b) (.bool b)
  | int (k n) : VRel Γ w (.int k n) (.int k n)
  | float (k n) : VRel Γ w (.float k n) (.float k n)
  | str (s) : VRel Γ w (.str s) (.string s)
  | nilp : VRel Γ w .nilp (.pointer none)
  | obj (id off b) (h : Γ.obj id = some b) : VRel Γ w (.obj id off) (.pointer (some ⟨b, off, none⟩))
  | loc (f t g off b) (h : Γ.loc f t g = some b) : VRel Γ w (.loc f t g off) (.pointer (some ⟨b, off, none⟩))
  | ro (cells off b o) (c : Nat → Value) (hc : ∀ i, i < cells.length → w.cell? ⟨b, o + i, none⟩ = some (c i))
      (hr : ∀ i (h : i < cells.length), VRel Γ w cells[i] (c i)) (hi : cells ≠ [] → Γ.imm b (o + cells.length)) :
      VRel Γ w (.ro cells off) (.pointer (some ⟨b, o + off, none⟩))
  | glob (g off) : VRel Γ w (.glob g off) (.pointer (some ⟨g, off, none⟩))
  | nils : VRel Γ w .nils (.slice none 0 0)
  | slice (p len cells b o cap) (c : Nat → Value) (hlen : len ≤ cap) (hc : ∀ i, i < cells.length → w.cell? ⟨b, o + i, none⟩ = some (c i))
      (hr : ∀ i (h : i < cells.length), VRel Γ w cells[i] (c i)) (hi : cells ≠ [] → Γ.imm b (o + cells.length))
      (hp : PermOK Γ w cells.length b o len cap p) : VRel Γ w (.slice p len cells) (.slice (some ⟨b, o, none⟩) len cap)
  | nilm : VRel Γ w .nilm (.map none)
  | map (id b) (h : Γ.obj id = some b) : VRel Γ w (.map id) (.map (some b))
  | emap (b clock) (h1 : Γ.kind b = .foreign) (h2 : w.heap[b]? = some (.map #[] clock)) : VRel Γ w .emap (.map (some b))
  | func (f first captured) (fs cs : Array Value) (h1 : fs.size = first.length) (h2 : cs.size = captured.length)
      (r1 : ∀ i (h : i < first.length) (h' : i < fs.size), VRel Γ w first[i] fs[i]) (r2 : ∀ i (h : i < captured.length) (h' : i < cs.size), VRel Γ w captured[i] cs[i]) :
      VRel Γ w (.func f first captured) (.func (.func f) fs cs)
  | nilf : VRel Γ w .nilf .nilFunc
  | iface (t v c) (h : VRel Γ w v c) : VRel Γ w (.iface t v) (.iface t c)
  | nili : VRel Γ w .nili .nilIface
  | agg (cells) (cs : Array Value) (h1 : cs.size = cells.length) (r : ∀ i (h : i < cells.length) (h' : i < cs.size), VRel Γ w cells[i] cs[i]) : VRel Γ w (.agg cells) (.agg cs)
  | tuple (vs) (cs : Array Value) (h1 : cs.size = vs.length) (r : ∀ i (h : i < vs.length) (h' : i < cs.size), VRel Γ w vs[i] cs[i]) : VRel Γ w (.tuple vs) (.tuple cs)

/-- Lists of values. -/
inductive VsRel (Γ : Gh) (w : World) : List AV → List Value → Prop where
  | nil : VsRel Γ w [] []
  | cons {v c vs cs} (h : VRel Γ w v c) (r : VsRel Γ w vs cs) : VsRel Γ w (v :: vs) (c :: cs)

section
variable {Γ : Gh} {w : World}

theorem VsRel.length {vs : List AV} {cs : List Value} (h : VsRel Γ w vs cs) : cs.length = vs.length := by
  induction h with
  | nil => rfl
  | cons _ _ ih => simp [ih]

theorem VsRel.get {vs : List AV} {cs : List Value} (h : VsRel Γ w vs cs) : ∀ i (h1 : i < vs.length) (h2 : i < cs.length), VRel Γ w vs[i] cs[i] := by
  induction h with
  | nil => intro i h; simp at h
  | cons h _ ih =>
    intro i h1 h2
    cases i with
    | zero => exact h
    | succ i => exact ih i (by simpa using h1) (by simpa using h2)

theorem VsRel.of_get : ∀ {vs : List AV} {cs : List Value}, cs.length = vs.length → (∀ i (h1 : i < vs.length) (h2 : i < cs.length), VRel Γ w vs[i] cs[i]) → VsRel Γ w vs cs
  | [], [], _, _ => .nil
  | [], _ :: _, h, _ => by simp at h
  | _ :: _, [], h, _ => by simp at h
  | v :: vs, c :: cs, h, r => .cons (r 0 (by simp) (by simp)) (VsRel.of_get (by simpa using h) fun i h1 h2 => r (i + 1) (by simpa using h1) (by simpa using h2))

theorem VsRel.append {a b : List AV} {c d : List Value} (h : VsRel Γ w a c) (h' : VsRel Γ w b d) : VsRel Γ w (a ++ b) (c ++ d) := by
  induction h with
  | nil => exact h'
  | cons h _ ih => exact .cons h ih

theorem VsRel.take {a : List AV} {c : List Value} (h : VsRel Γ w a c) (n : Nat) : VsRel Γ w (a.take n) (c.take n) := by
  induction h generalizing n with
  | nil => simp; exact .nil
  | cons h _ ih => cases n with
    | zero => simp; exact .nil
    | succ n => simp; exact .cons h (ih n)

theorem VsRel.drop {a : List AV} {c : List Value} (h : VsRel Γ w a c) (n : Nat) : VsRel Γ w (a.drop n) (c.drop n) := by
  induction h generalizing n with
  | nil => simp; exact .nil
  | cons h r ih => cases n with
    | zero => simp; exact .cons h r
    | succ n => simp; exact ih n

theorem VsRel.getElem? {a : List AV} {c : List Value} (h : VsRel Γ w a c) {i : Nat} {v : AV} (hv : a[i]? = some v) : ∃ x, c[i]? = some x ∧ VRel Γ w v x := by
  obtain ⟨hi, rfl⟩ := List.getElem?_eq_some_iff.1 hv
  exact ⟨c[i]'(by rw [h.length]; exact hi), List.getElem?_eq_getElem _, h.get i hi (by rw [h.length]; exact hi)⟩

/-- The list of what a row of cells holds. -/
def fromTo (c : Nat → Value) (n : Nat) : List Value := (List.range n).map c
theorem fromTo_length (c : Nat → Value) (n : Nat) : (fromTo c n).length = n := by simp [fromTo]
theorem fromTo_get (c : Nat → Value) (n i : Nat) (h : i < (fromTo c n).length) : (fromTo c n)[i] = c i := by simp [fromTo]
theorem vsRel_fromTo {cells : List AV} {c : Nat → Value} (hr : ∀ i (h : i < cells.length), VRel Γ w cells[i] (c i)) : VsRel Γ w cells (fromTo c cells.length) :=
  .of_get (fromTo_length _ _) fun i h1 h2 => by rw [fromTo_get]; exact hr i h1

theorem vrel_agg {cells : List AV} {cs : Array Value} (h : VsRel Γ w cells cs.toList) : VRel Γ w (.agg cells) (.agg cs) :=
  .agg cells cs (by simpa using h.length) fun i h1 h2 => by rw [← Array.getElem_toList]; exact h.get i h1 h2
theorem vrel_tuple {cells : List AV} {cs : Array Value} (h : VsRel Γ w cells cs.toList) : VRel Γ w (.tuple cells) (.tuple cs) :=
  .tuple cells cs (by simpa using h.length) fun i h1 h2 => by rw [← Array.getElem_toList]; exact h.get i h1 h2

theorem VRel.agg_inv {cells : List AV} {c : Value} (h : VRel Γ w (.agg cells) c) : ∃ cs, c = .agg cs ∧ VsRel Γ w cells cs.toList := by
  cases h with
  | agg _ cs h1 r => exact ⟨cs, rfl, .of_get (by simpa using h1) fun i h1 h2 => by simpa using r i h1 (by simpa using h2)⟩
theorem VRel.tuple_inv {cells : List AV} {c : Value} (h : VRel Γ w (.tuple cells) c) : ∃ cs, c = .tuple cs ∧ VsRel Γ w cells cs.toList := by
  cases h with
  | tuple _ cs h1 r => exact ⟨cs, rfl, .of_get (by simpa using h1) fun i h1 h2 => by simpa using r i h1 (by simpa using h2)⟩
theorem VRel.func_inv {f : FuncId} {first captured : List AV} {c : Value} (h : VRel Γ w (.func f first captured) c) :
    ∃ fs cs, c = .func (.func f) fs cs ∧ VsRel Γ w first fs.toList ∧ VsRel Γ w captured cs.toList := by
  cases h with
  | func _ _ _ fs cs h1 h2 r1 r2 =>
    exact ⟨fs, cs, rfl, .of_get (by simpa using h1) fun i h1 h2 => by simpa using r1 i h1 (by simpa using h2), .of_get (by simpa using h2) fun i h1 h2 => by simpa using r2 i h1 (by simpa using h2)⟩
theorem vrel_func {f : FuncId} {first captured : List AV} {fs cs : Array Value} (h1 : VsRel Γ w first fs.toList) (h2 : VsRel Γ w captured cs.toList) :
    VRel Γ w (.func f first captured) (.func (.func f) fs cs) :=
  .func f first captured fs cs (by simpa using h1.length) (by simpa using h2.length) (fun i a b => by rw [← Array.getElem_toList]; exact h1.get i a b) fun i a b => by rw [← Array.getElem_toList]; exact h2.get i a b

/-- The cells of a value. -/
theorem VRel.cells {v : AV} {c : Value} (h : VRel Γ w v c) : VsRel Γ w v.cells c.cells.toList := by
  cases h with
  | agg _ cs h1 r => exact .of_get (by simpa [Value.cells, AV.cells] using h1) fun i h1 h2 => r i h1 (by simpa [Value.cells] using h2)
  | _ => simp only [AV.cells, Value.cells]; exact .cons (by constructor <;> assumption) .nil
end

/-- What lasts from one world to a later one, as frame fid goes on (frames of lower numbers wait). -/
structure Ext (fid : Nat) (Γ : Gh) (w : World) (Γ' : Gh) (w' : World) : Prop where
  size : w.heap.size ≤ w'.heap.size
  obj : ∀ id b, Γ.obj id = some b → Γ'.obj id = some b
  loc : ∀ f t g b, Γ.loc f t g = some b → Γ'.loc f t g = some b
  tok : ∀ g n x, Γ.tok g n = some x → Γ'.tok g n = some x
  others : ∀ f t g, f < fid → Γ'.loc f t g = Γ.loc f t g
  keepLoc : ∀ f t g b, f < fid → Γ.loc f t g = some b → w'.heap[b]? = w.heap[b]?
  foreign : ∀ b, b < w.heap.size → Γ.kind b = .foreign → Γ'.kind b = .foreign ∧ w'.heap[b]? = w.heap[b]?
  pure : ∀ b n o, Γ.kind b = .pure n o → (∃ n' o', Γ'.kind b = .pure n' o' ∧ n ≤ n') ∧ ∀ i, i < n → w'.cell? ⟨b, i, none⟩ = w.cell? ⟨b, i, none⟩
  still : ∀ b n, b < w.heap.size → Γ.kind b = .pure n none → Γ'.kind b = .pure n none ∧ w'.heap[b]? = w.heap[b]?
  shape : ∀ b x, w.shape? b = some x → w'.shape? b = some x
  os : w'.os = w.os
  output : w'.output = w.output

theorem Ext.refl (fid : Nat) (Γ : Gh) (w : World) : Ext fid Γ w Γ w :=
  ⟨Nat.le_refl _, fun _ _ h => h, fun _ _ _ _ h => h, fun _ _ _ h => h, fun _ _ _ _ => rfl, fun _ _ _ _ _ _ => rfl, fun _ _ h => ⟨h, rfl⟩,
    fun _ n o h => ⟨⟨n, o, h, Nat.le_refl _⟩, fun _ _ => rfl⟩, fun _ _ _ h => ⟨h, rfl⟩, fun _ _ h => h, rfl, rfl⟩

theorem Ext.trans {fid : Nat} {Γ Γ' Γ'' : Gh} {w w' w'' : World} (h : Ext fid Γ w Γ' w') (h' : Ext fid Γ' w' Γ'' w'') : Ext fid Γ w Γ'' w'' where
  size := Nat.le_trans h.size h'.size
  obj id b e := h'.obj _ _ (h.obj _ _ e)
  loc f t g b e := h'.loc _ _ _ _ (h.loc _ _ _ _ e)
  tok g n x e := h'.tok _ _ _ (h.tok _ _ _ e)
  others f t g e := (h'.others f t g e).trans (h.others f t g e)
  keepLoc f t g b e e' := (h'.keepLoc f t g b e (h.loc _ _ _ _ e')).trans (h.keepLoc f t g b e e')
  foreign b hb e := ⟨(h'.foreign b (Nat.lt_of_lt_of_le hb h.size) (h.foreign b hb e).1).1, ((h'.foreign b (Nat.lt_of_lt_of_le hb h.size) (h.foreign b hb e).1).2).trans (h.foreign b hb e).2⟩
  pure b n o e := by
    obtain ⟨⟨n', o', e', hn⟩, hc⟩ := h.pure b n o e
    obtain ⟨⟨n'', o'', e'', hn'⟩, hc'⟩ := h'.pure b n' o' e'
    exact ⟨⟨n'', o'', e'', Nat.le_trans hn hn'⟩, fun i hi => (hc' i (Nat.lt_of_lt_of_le hi hn)).trans (hc i hi)⟩
  still b n hb e := ⟨(h'.still b n (Nat.lt_of_lt_of_le hb h.size) (h.still b n hb e).1).1, ((h'.still b n (Nat.lt_of_lt_of_le hb h.size) (h.still b n hb e).1).2).trans (h.still b n hb e).2⟩
  shape b x e := h'.shape b x (h.shape b x e)
  os := h'.os.trans h.os
  output := h'.output.trans h.output

/-- A callee's frame has a higher number. -/
theorem Ext.down {fid fid' : Nat} {Γ Γ' : Gh} {w w' : World} (h : Ext fid' Γ w Γ' w') (hle : fid ≤ fid') : Ext fid Γ w Γ' w' :=
  { h with others := fun f t g e => h.others f t g (Nat.lt_of_lt_of_le e hle), keepLoc := fun f t g b e => h.keepLoc f t g b (Nat.lt_of_lt_of_le e hle) }

theorem cell?_of_heap {w w' : World} {b : Nat} (h : w'.heap[b]? = w.heap[b]?) (i : Nat) : w'.cell? ⟨b, i, none⟩ = w.cell? ⟨b, i, none⟩ := by
  simp only [World.cell?, h]
theorem shape?_of_heap {w w' : World} {b : Nat} (h : w'.heap[b]? = w.heap[b]?) : w'.shape? b = w.shape? b := by
  simp only [World.shape?, h]

section
variable {fid : Nat} {Γ Γ' : Gh} {w w' : World}

theorem Ext.imm (h : Ext fid Γ w Γ' w') {b n : Nat} (hb : b < w.heap.size) (hi : Γ.imm b n) : Γ'.imm b n := by
  rcases hi with hi | ⟨m, o, hi, hn⟩
  · exact .inl (h.foreign b hb hi).1
  · obtain ⟨⟨n', o', e, hm⟩, _⟩ := h.pure b m o hi
    exact .inr ⟨n', o', e, Nat.le_trans hn hm⟩

theorem Ext.cell (h : Ext fid Γ w Γ' w') {b n i : Nat} {v : Value} (hi : Γ.imm b n) (hin : i < n) (hv : w.cell? ⟨b, i, none⟩ = some v) : w'.cell? ⟨b, i, none⟩ = some v := by
  have hb : b < w.heap.size := World.block_lt_of_cell? w ⟨b, i, none⟩ hv
  rcases hi with hi | ⟨m, o, hi, hn⟩
  · rw [cell?_of_heap (h.foreign b hb hi).2]; exact hv
  · rw [(h.pure b m o hi).2 i (Nat.lt_of_lt_of_le hin hn)]; exact hv

theorem PermOK.mono (h : Ext fid Γ w Γ' w') {n b off len cap : Nat} {p : Perm} (hp : PermOK Γ w n b off len cap p) : PermOK Γ' w' n b off len cap p := by
  cases p with
  | no => trivial
  | exact => exact hp
  | opn g sz =>
    obtain ⟨h0, h1, h2, e, m, h3, h4⟩ := hp
    exact ⟨h0, h1, h.tok _ _ _ h2, e, m, h.shape _ _ h3, h4⟩

theorem row_mono (h : Ext fid Γ w Γ' w') {cells : List AV} {b o : Nat} {c : Nat → Value} (hc : ∀ i, i < cells.length → w.cell? ⟨b, o + i, none⟩ = some (c i))
    (hi : cells ≠ [] → Γ.imm b (o + cells.length)) : (∀ i, i < cells.length → w'.cell? ⟨b, o + i, none⟩ = some (c i)) ∧ (cells ≠ [] → Γ'.imm b (o + cells.length)) := by
  refine ⟨fun i hl => ?_, fun hne => ?_⟩
  · have hne : cells ≠ [] := by intro e; subst e; simp at hl
    exact h.cell (hi hne) (by omega) (hc i hl)
  · have hl : 0 < cells.length := List.length_pos_iff.2 hne
    exact h.imm (World.block_lt_of_cell? w _ (hc 0 hl)) (hi hne)

theorem VRel.mono (h : Ext fid Γ w Γ' w') {v : AV} {c : Value} (hv : VRel Γ w v c) : VRel Γ' w' v c := by
  induction hv with
  | bool b => exact .bool b
  | int k n => exact .int k n
  | float k n => exact .float k n
  | str s => exact .str s
  | nilp => exact .nilp
  | obj id off b e => exact .obj id off b (h.obj _ _ e)
  | loc f t g off b e => exact .loc f t g off b (h.loc _ _ _ _ e)
  | ro cells off b o c hc hr hi ih => exact .ro cells off b o c (row_mono h hc hi).1 ih (row_mono h hc hi).2
  | glob g off => exact .glob g off
  | nils => exact .nils
  | slice p len cells b o cap c hlen hc hr hi hp ih => exact .slice p len cells b o cap c hlen (row_mono h hc hi).1 ih (row_mono h hc hi).2 (hp.mono h)
  | nilm => exact .nilm
  | map id b e => exact .map id b (h.obj _ _ e)
  | emap b clock h1 h2 =>
    have hf := h.foreign b (Array.getElem?_eq_some_iff.1 h2).1 h1
    exact .emap b clock hf.1 (hf.2.trans h2)
  | func f first captured fs cs h1 h2 r1 r2 ih1 ih2 => exact .func f first captured fs cs h1 h2 ih1 ih2
  | nilf => exact .nilf
  | iface t v c _ ih => exact .iface t v c ih
  | nili => exact .nili
  | agg cells cs h1 r ih => exact .agg cells cs h1 ih
  | tuple cells cs h1 r ih => exact .tuple cells cs h1 ih

theorem VsRel.mono (h : Ext fid Γ w Γ' w') {v : List AV} {c : List Value} (hv : VsRel Γ w v c) : VsRel Γ' w' v c := by
  induction hv with
  | nil => exact .nil
  | cons hv _ ih => exact .cons (hv.mono h) ih
end

/-- An object of the model's is AE's. -/
def ORel (Γ : Gh) (w : World) : AObj → Obj → Prop
  | .cells cs, .cells arr _ frz => frz = (0, 0) ∧ VsRel Γ w cs arr.toList
  | .amap es, .map entries clock => VsRel Γ w (es.map (·.1)) (entries.toList.map (·.key)) ∧ VsRel Γ w (es.map (·.2)) (entries.toList.map (·.val)) ∧ MapKept.Stamped entries clock
  | .iter s pos, .stringIter s' pos' => s' = s ∧ pos' = pos
  | _, _ => False

theorem ORel.mono {fid : Nat} {Γ Γ' : Gh} {w w' : World} (h : Ext fid Γ w Γ' w') {a : AObj} {o : Obj} (ho : ORel Γ w a o) : ORel Γ' w' a o := by
  cases a <;> cases o <;> simp only [ORel] at ho ⊢ <;> try exact ho
  · exact ⟨ho.1, ho.2.mono h⟩
  · exact ⟨ho.1.mono h, ho.2.1.mono h, ho.2.2⟩

/-- The world is as AE's memory for all says. -/
structure RepS (E : Env) (Γ : Gh) (σ : Sig) (w : World) : Prop where
  obj : ∀ id b, Γ.obj id = some b → Γ.kind b = .obj id ∧ ∃ o ob, σ.objs.get id = some o ∧ w.heap[b]? = some ob ∧ ORel Γ w o ob
  objNew : ∀ id, σ.nobj ≤ id → Γ.obj id = none
  loc : ∀ f t g b, Γ.loc f t g = some b → Γ.kind b = .loc f t g ∧ b < w.heap.size
  locNew : ∀ f t g, σ.nfr ≤ f → Γ.loc f t g = none
  tok : ∀ g n b off, σ.tops.get g = some n → Γ.tok g n = some (b, off) → Γ.kind b = .pure (off + n) (some g) ∧ ∃ arr e, w.heap[b]? = some (.cells arr e (0, 0))
  tokNew : ∀ g, σ.ngrp ≤ g → ∀ n, Γ.tok g n = none
  tokTop : ∀ g n, σ.tops.get g = some n → ∀ m, n < m → Γ.tok g m = none
  fresh : ∀ b, w.heap.size ≤ b → Γ.kind b = .foreign
  glob : ∀ g cells, E.globs g = some cells → Γ.kind g = .foreign ∧ g < w.heap.size ∧ ∃ c : Nat → Value, (∀ i, i < cells.length → w.cell? ⟨g, i, none⟩ = some (c i)) ∧ ∀ i (h : i < cells.length), VRel Γ w cells[i] (c i)

/-- A frame's own variables. -/
structure RepL (fid : Nat) (Γ : Gh) (locs : T (Nat × AObj)) (w : World) : Prop where
  own : ∀ t g o b, locs.get t = some (g, o) → Γ.loc fid t g = some b → ∃ ob, w.heap[b]? = some ob ∧ ORel Γ w o ob
  gen : ∀ t g b, Γ.loc fid t g = some b → ∃ g' o, locs.get t = some (g', o) ∧ g ≤ g'

end Go.Ax
