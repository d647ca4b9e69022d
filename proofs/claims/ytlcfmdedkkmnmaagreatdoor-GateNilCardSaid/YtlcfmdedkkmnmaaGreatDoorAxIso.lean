/-
  AE: a function on pure values whose answer is a scalar may be run apart, with nothing shared.
-/
import Derived.Test.YtlcfmdedkkmnmaaGreatDoorAxExec
namespace Go.Ax

/-- A later world in which all that there was is as it was. -/
structure Over (w w' : World) : Prop where
  old : ∀ b, b < w.heap.size → w'.heap[b]? = w.heap[b]?
  size : w.heap.size ≤ w'.heap.size
  os : w'.os = w.os
  output : w'.output = w.output

section
variable {P : Program} {E : Env} {Γ Γ' : Gh} {σ : Sig} {w w' : World} {fid : Nat}

theorem Over.cell (h : Over w w') {a : Addr} (hb : a.block < w.heap.size) : w'.cell? a = w.cell? a := by
  simp only [World.cell?, h.old _ hb]

theorem Over.ext (h : Over w w') (hS : RepS E Γ σ w) : Ext fid Γ w Γ w' where
  size := h.size
  obj _ _ e := e
  loc _ _ _ _ e := e
  tok _ _ _ e := e
  others _ _ _ _ := rfl
  keepLoc f t g b _ e := h.old b (hS.loc f t g b e).2
  foreign b hb e := ⟨e, h.old b hb⟩
  pure b n o e := by
    have hb : b < w.heap.size := by
      rcases Nat.lt_or_ge b w.heap.size with hb | hb
      · exact hb
      · rw [hS.fresh b hb] at e; simp at e
    exact ⟨⟨n, o, e, Nat.le_refl _⟩, fun i _ => h.cell hb⟩
  still b n hb e := ⟨e, h.old b hb⟩
  shape b x e := by
    have hb := shape?_lt e
    rw [shape?_of_heap (h.old b hb)]; exact e
  os := h.os
  output := h.output

theorem RepS.over (hS : RepS E Γ σ w) (h : Over w w') : RepS E Γ σ w' :=
  have hx := h.ext (fid := 0) hS
  { hS with
    obj := fun id b e => by
      obtain ⟨k, o, ob, e1, e2, r⟩ := hS.obj id b e
      exact ⟨k, o, ob, e1, by rw [h.old b (lt_of_heap e2)]; exact e2, r.mono hx⟩
    loc := fun f t g b e => ⟨(hS.loc f t g b e).1, Nat.lt_of_lt_of_le (hS.loc f t g b e).2 h.size⟩
    tok := fun g n b off e e' => by
      obtain ⟨k, arr, e1, e2⟩ := hS.tok g n b off e e'
      exact ⟨k, arr, e1, by rw [h.old b (lt_of_heap e2)]; exact e2⟩
    fresh := fun b e => hS.fresh b (Nat.le_trans h.size e)
    glob := fun g cells e => by
      obtain ⟨k, e1, c, e2, e3⟩ := hS.glob g cells e
      exact ⟨k, Nat.lt_of_lt_of_le e1 h.size, c, fun i hi => by rw [h.cell e1]; exact e2 i hi, fun i hi => (e3 i hi).mono hx⟩ }

mutual
/-- Nothing of a value is shared. -/
def AV.pure : AV → Bool
  | .obj .. | .loc .. | .map _ => false
  | .ro cs _ => AV.pures cs
  | .slice _ _ cs => AV.pures cs
  | .func _ a b => AV.pures a && AV.pures b
  | .iface _ v => AV.pure v
  | .agg cs => AV.pures cs
  | .tuple cs => AV.pures cs
  | _ => true
def AV.pures : List AV → Bool
  | [] => true
  | v :: vs => AV.pure v && AV.pures vs
end

mutual
/-- A value to which no one appends. -/
def AV.weak : AV → AV
  | .ro cs o => .ro (AV.weaks cs) o
  | .slice _ n cs => .slice .no n (AV.weaks cs)
  | .func f a b => .func f (AV.weaks a) (AV.weaks b)
  | .iface t v => .iface t (AV.weak v)
  | .agg cs => .agg (AV.weaks cs)
  | .tuple cs => .tuple (AV.weaks cs)
  | v => v
def AV.weaks : List AV → List AV
  | [] => []
  | v :: vs => AV.weak v :: AV.weaks vs
end

theorem AV.weaks_eq : ∀ (l : List AV), AV.weaks l = l.map AV.weak
  | [] => rfl
  | v :: vs => by simp [AV.weaks, AV.weaks_eq vs]
theorem AV.pures_eq : ∀ (l : List AV), AV.pures l = l.all AV.pure
  | [] => rfl
  | v :: vs => by simp [AV.pures, AV.pures_eq vs]

theorem pures_get {l : List AV} (h : AV.pures l = true) (i : Nat) (hi : i < l.length) : AV.pure l[i] = true := by
  rw [AV.pures_eq, List.all_eq_true] at h
  exact h _ (List.getElem_mem hi)

/-- What is known where all that is shared is forgotten. -/
def Gh.apart (Γ : Gh) : Gh := ⟨fun _ => Option.none, fun _ _ _ => Option.none, fun _ _ => Option.none, fun b => match Γ.kind b with
  | .foreign => .foreign
  | .pure n _ => .pure n Option.none
  | .obj _ | .loc .. => .pure 0 Option.none⟩

theorem Gh.imm.apart' {b n : Nat} (h : Γ.imm b n) {m : Nat} (hm : m = n := by simp) : Γ.apart.imm b m := by
  subst hm
  rcases h with h | ⟨m, o, h, hn⟩
  · exact .inl (by simp only [Gh.apart, h])
  · exact .inr ⟨m, Option.none, by simp only [Gh.apart, h], hn⟩

theorem VRel.apart {v : AV} {c : Value} (h : VRel Γ w v c) : AV.pure v = true → VRel Γ.apart w (AV.weak v) c := by
  induction h with
  | bool b => intro _; exact .bool b
  | int k n => intro _; exact .int k n
  | float k n => intro _; exact .float k n
  | str s => intro _; exact .str s
  | nilp => intro _; exact .nilp
  | obj => intro h; simp [AV.pure] at h
  | loc => intro h; simp [AV.pure] at h
  | ro cells off b o c hc hr hi ih =>
    intro hp
    simp only [AV.pure] at hp
    simp only [AV.weak, AV.weaks_eq]
    exact .ro _ off b o c (fun i hi => hc i (by simpa using hi)) (fun i h => by simpa using ih i (by simpa using h) (pures_get hp i (by simpa using h))) (fun hne => (hi (by intro e; subst e; simp at hne)).apart')
  | glob g off => intro _; exact .glob g off
  | nils => intro _; exact .nils
  | slice p len cells b o cap c hlen hc hr hi hp ih =>
    intro hpu
    simp only [AV.pure] at hpu
    simp only [AV.weak, AV.weaks_eq]
    exact .slice _ len _ b o cap c hlen (fun i hi => hc i (by simpa using hi)) (fun i h => by simpa using ih i (by simpa using h) (pures_get hpu i (by simpa using h))) (fun hne => (hi (by intro e; subst e; simp at hne)).apart') trivial
  | nilm => intro _; exact .nilm
  | map => intro h; simp [AV.pure] at h
  | emap b clock h1 h2 => intro _; exact .emap b clock (by simp only [Gh.apart, h1]) h2
  | func f first captured fs cs h1 h2 r1 r2 ih1 ih2 =>
    intro hp
    simp only [AV.pure, Bool.and_eq_true] at hp
    simp only [AV.weak, AV.weaks_eq]
    exact .func f _ _ fs cs (by simpa using h1) (by simpa using h2) (fun i h h' => by simpa using ih1 i (by simpa using h) h' (pures_get hp.1 i (by simpa using h)))
      (fun i h h' => by simpa using ih2 i (by simpa using h) h' (pures_get hp.2 i (by simpa using h)))
  | nilf => intro _; exact .nilf
  | iface t v c _ ih =>
    intro hp
    simp only [AV.pure] at hp
    exact .iface t _ c (ih hp)
  | nili => intro _; exact .nili
  | agg cells cs h1 r ih =>
    intro hp
    simp only [AV.pure] at hp
    simp only [AV.weak, AV.weaks_eq]
    exact .agg _ cs (by simpa using h1) fun i h h' => by simpa using ih i (by simpa using h) h' (pures_get hp i (by simpa using h))
  | tuple cells cs h1 r ih =>
    intro hp
    simp only [AV.pure] at hp
    simp only [AV.weak, AV.weaks_eq]
    exact .tuple _ cs (by simpa using h1) fun i h h' => by simpa using ih i (by simpa using h) h' (pures_get hp i (by simpa using h))

theorem VsRel.apart {vs : List AV} {cs : List Value} (h : VsRel Γ w vs cs) (hp : AV.pures vs = true) : VsRel Γ.apart w (AV.weaks vs) cs := by
  induction h with
  | nil => exact .nil
  | cons h r ih =>
    simp only [AV.pures, Bool.and_eq_true] at hp
    exact .cons (h.apart hp.1) (ih hp.2)

/-- Tables of scalars alone. -/
def GlobsOK (E : Env) : Prop := ∀ g cells, E.globs g = some cells → AV.pures cells = true ∧ AV.weaks cells = cells

theorem RepS.apart (hG : GlobsOK E) (hS : RepS E Γ σ w) : RepS E Γ.apart {} w where
  obj id b e := by simp [Gh.apart] at e
  objNew _ _ := rfl
  loc f t g b e := by simp [Gh.apart] at e
  locNew _ _ _ _ := rfl
  tok g n b off _ e := by simp [Gh.apart] at e
  tokNew _ _ _ := rfl
  tokTop _ _ _ _ _ := rfl
  fresh b hb := by simp only [Gh.apart, hS.fresh b hb]
  glob g cells e := by
    obtain ⟨k, e1, c, e2, e3⟩ := hS.glob g cells e
    obtain ⟨hp, hw⟩ := hG g cells e
    refine ⟨by simp only [Gh.apart, k], e1, c, e2, fun i hi => ?_⟩
    have := (e3 i hi).apart (pures_get hp i hi)
    have h2 : AV.weak cells[i] = cells[i] := by
      rw [AV.weaks_eq] at hw
      have := congrArg (·[i]?) hw
      simpa [hi] using this
    rwa [h2] at this

theorem Over.of_apart (h : Ext fid Γ.apart w Γ' w') : Over w w' := by
  refine ⟨fun b hb => ?_, h.size, h.os, h.output⟩
  cases hk : Γ.kind b with
  | foreign => exact (h.foreign b hb (by simp only [Gh.apart, hk])).2
  | obj id => exact (h.still b 0 hb (by simp only [Gh.apart, hk])).2
  | loc f t g => exact (h.still b 0 hb (by simp only [Gh.apart, hk])).2
  | pure n o => exact (h.still b n hb (by simp only [Gh.apart, hk])).2

/-- What lasts behind a run apart. -/
theorem imm_back (hS : RepS E Γ σ w) (h : Ext fid Γ.apart w Γ' w') {b n : Nat} (hi : Γ'.imm b n) (hn : 0 < n) : Γ.imm b n := by
  rcases Nat.lt_or_ge b w.heap.size with hb | hb
  · cases hk : Γ.kind b with
    | foreign => exact .inl hk
    | obj id =>
      have := (h.still b 0 hb (by simp only [Gh.apart, hk])).1
      rcases hi with hi | ⟨m, o, hi, hm⟩
      · rw [this] at hi; simp at hi
      · rw [this] at hi; simp only [Kind.pure.injEq] at hi; omega
    | loc f t g =>
      have := (h.still b 0 hb (by simp only [Gh.apart, hk])).1
      rcases hi with hi | ⟨m, o, hi, hm⟩
      · rw [this] at hi; simp at hi
      · rw [this] at hi; simp only [Kind.pure.injEq] at hi; omega
    | pure k o =>
      have := (h.still b k hb (by simp only [Gh.apart, hk])).1
      rcases hi with hi | ⟨m, o', hi, hm⟩
      · rw [this] at hi; simp at hi
      · rw [this] at hi; simp only [Kind.pure.injEq] at hi; exact .inr ⟨k, o, hk, by omega⟩
  · exact .inl (hS.fresh b hb)

theorem VRel.back (hS : RepS E Γ σ w) (hx : Ext fid Γ.apart w Γ' w') {v : AV} {c : Value} (h : VRel Γ' w' v c) : AV.pure v = true → VRel Γ w' (AV.weak v) c := by
  induction h with
  | bool b => intro _; exact .bool b
  | int k n => intro _; exact .int k n
  | float k n => intro _; exact .float k n
  | str s => intro _; exact .str s
  | nilp => intro _; exact .nilp
  | obj => intro h; simp [AV.pure] at h
  | loc => intro h; simp [AV.pure] at h
  | ro cells off b o c hc hr hi ih =>
    intro hp
    simp only [AV.pure] at hp
    simp only [AV.weak, AV.weaks_eq]
    refine .ro _ off b o c (fun i hi => hc i (by simpa using hi)) (fun i h => by simpa using ih i (by simpa using h) (pures_get hp i (by simpa using h))) fun hne => ?_
    have hne' : cells ≠ [] := by intro e; subst e; simp at hne
    have := List.length_pos_iff.2 hne'
    simpa using imm_back hS hx (hi hne') (by omega)
  | glob g off => intro _; exact .glob g off
  | nils => intro _; exact .nils
  | slice p len cells b o cap c hlen hc hr hi hp ih =>
    intro hpu
    simp only [AV.pure] at hpu
    simp only [AV.weak, AV.weaks_eq]
    refine .slice _ len _ b o cap c hlen (fun i hi => hc i (by simpa using hi)) (fun i h => by simpa using ih i (by simpa using h) (pures_get hpu i (by simpa using h))) (fun hne => ?_) trivial
    have hne' : cells ≠ [] := by intro e; subst e; simp at hne
    have := List.length_pos_iff.2 hne'
    simpa using imm_back hS hx (hi hne') (by omega)
  | nilm => intro _; exact .nilm
  | map => intro h; simp [AV.pure] at h
  | emap b clock h1 h2 =>
    intro _
    refine .emap b clock ?_ h2
    rcases Nat.lt_or_ge b w.heap.size with hb | hb
    · cases hk : Γ.kind b with
      | foreign => rfl
      | obj id => have := (hx.still b 0 hb (by simp only [Gh.apart, hk])).1; rw [this] at h1; cases h1
      | loc f t g => have := (hx.still b 0 hb (by simp only [Gh.apart, hk])).1; rw [this] at h1; cases h1
      | pure n o => have := (hx.still b n hb (by simp only [Gh.apart, hk])).1; rw [this] at h1; cases h1
    · exact hS.fresh b hb
  | func f first captured fs cs h1 h2 r1 r2 ih1 ih2 =>
    intro hp
    simp only [AV.pure, Bool.and_eq_true] at hp
    simp only [AV.weak, AV.weaks_eq]
    exact .func f _ _ fs cs (by simpa using h1) (by simpa using h2) (fun i h h' => by simpa using ih1 i (by simpa using h) h' (pures_get hp.1 i (by simpa using h)))
      (fun i h h' => by simpa using ih2 i (by simpa using h) h' (pures_get hp.2 i (by simpa using h)))
  | nilf => intro _; exact .nilf
  | iface t v c _ ih =>
    intro hp
    simp only [AV.pure] at hp
    exact .iface t _ c (ih hp)
  | nili => intro _; exact .nili
  | agg cells cs h1 r ih =>
    intro hp
    simp only [AV.pure] at hp
    simp only [AV.weak, AV.weaks_eq]
    exact .agg _ cs (by simpa using h1) fun i h h' => by simpa using ih i (by simpa using h) h' (pures_get hp i (by simpa using h))
  | tuple cells cs h1 r ih =>
    intro hp
    simp only [AV.pure] at hp
    simp only [AV.weak, AV.weaks_eq]
    exact .tuple _ cs (by simpa using h1) fun i h h' => by simpa using ih i (by simpa using h) h' (pures_get hp i (by simpa using h))

/-- What a run apart shows. -/
theorem apart_ok (hG : GlobsOK E) {call : CallF} (hC : CallOK P E call) {f : FuncId} {args : List AV} {v : AV} {σ0 : Sig} (h : call f (AV.weaks args) {} = some (v, σ0)) (hp : AV.pures args = true) (hv : AV.pure v = true)
    (hS : RepS E Γ σ w) {cargs : Array Value} (ha : VsRel Γ w args cargs.toList) :
    Calls P f cargs w fun e w' => ∃ cv Γ', e = .returned cv ∧ Ext σ.nfr Γ w Γ' w' ∧ RepS E Γ' σ w' ∧ VRel Γ' w' (AV.weak v) cv ∧ σ.nfr ≤ σ.nfr := by
  obtain ⟨hen, hc⟩ := hC f _ _ _ _ h
  refine (hc Γ.apart w cargs (hS.apart hG) (ha.apart hp)).mono ?_
  rintro e w' ⟨cv, Γ', rfl, hx, _, hvr, _⟩
  have ho := Over.of_apart hx
  exact ⟨cv, Γ, rfl, ho.ext hS, hS.over ho, hvr.back hS hx hv, Nat.le_refl _⟩

/-- A specification of a function on pure values with a pure answer. -/
theorem ov_apart (hG : GlobsOK E) {call : Nat → CallF} (hC : ∀ n, CallOK P E (call n)) {f : FuncId} {h : List AV → Sig → Option (AV × Sig)}
    (hh : ∀ args σ v σ', h args σ = some (v, σ') → σ' = σ ∧ AV.pures args = true ∧ ∃ n v0 σ0, call n f (AV.weaks args) {} = some (v0, σ0) ∧ AV.pure v0 = true ∧ AV.weak v0 = v) :
    CallOK P E fun g args σ => if g = f then h args σ else none := by
  intro g args σ v σ' hg
  simp only at hg
  split at hg
  · rename_i hgf
    subst hgf
    obtain ⟨rfl, hp, n, v0, σ0, hn, hv, rfl⟩ := hh _ _ _ _ hg
    exact ⟨(hC n _ _ _ _ _ hn).1, fun Γ w cargs hS ha => apart_ok hG (hC n) hn hp hv hS ha⟩
  · simp at hg

/-- CallOK looks at the tables of types, functions and variables alone. -/
def Env.same (E E' : Env) : Prop := E.globs = E'.globs
theorem RepS.env {E' : Env} (h : E.globs = E'.globs) (hS : RepS E Γ σ w) : RepS E' Γ σ w := { hS with glob := fun g cells e => hS.glob g cells (by rw [h]; exact e) }
theorem CallOK.env {E' : Env} (h : E.globs = E'.globs) {call : CallF} (hC : CallOK P E call) : CallOK P E' call := by
  intro f args σ v σ' e
  obtain ⟨hen, hc⟩ := hC f args σ v σ' e
  refine ⟨hen, fun Γ w cargs hS ha => (hc Γ w cargs (hS.env h.symm) ha).mono ?_⟩
  rintro e w' ⟨cv, Γ', rfl, hx, hS', hv, hn⟩
  exact ⟨cv, Γ', rfl, hx, hS'.env h, hv, hn⟩

/-- One specification more. -/
def Env.with (E : Env) (f : FuncId) (h : List AV → Sig → Option (AV × Sig)) : Env := { E with ov := fun g => if g = f then some h else E.ov g }

theorem EnvOK.with {f : FuncId} {h : List AV → Sig → Option (AV × Sig)} (hE : EnvOK P E) (hh : CallOK P E fun g args σ => if g = f then h args σ else none) : EnvOK P (E.with f h) where
  ti := hE.ti
  fn := hE.fn
  ov g k e := by
    simp only [Env.with] at e
    split at e
    · rename_i hg
      subst hg
      simp only [Option.some.injEq] at e
      subst e
      exact CallOK.env (E := E) (E' := E.with g h) rfl hh
    · exact CallOK.env (E := E) (E' := E.with f h) rfl (hE.ov g k e)
  ext := hE.ext
  flat := hE.flat
  mixed := hE.mixed

/-- A function run apart, by another environment's code. -/
def isoH (E : Env) (n : Nat) (f : FuncId) : List AV → Sig → Option (AV × Sig) := fun args σ =>
  if AV.pures args then match call E n f (AV.weaks args) {} with
    | some (v, _) => if AV.pure v then some (AV.weak v, σ) else none
    | none => none
  else none

theorem isoH_ok (hG : GlobsOK E) (hC : ∀ n, CallOK P E (call E n)) (n : Nat) (f : FuncId) : CallOK P E fun g args σ => if g = f then isoH E n f args σ else none := by
  refine ov_apart hG hC fun args σ v σ' h => ?_
  unfold isoH at h
  split at h
  · rename_i hp
    split at h
    · rename_i v0 σ0 h0
      split at h
      · rename_i hv
        simp only [Option.some.injEq, Prod.mk.injEq] at h
        obtain ⟨rfl, rfl⟩ := h
        exact ⟨rfl, hp, n, v0, σ0, h0, hv, rfl⟩
      · simp at h
    · simp at h
  · simp at h

/-- Specifications more. -/
def Env.withs (E : Env) (hs : FuncId → Option (List AV → Sig → Option (AV × Sig))) : Env := { E with ov := fun g => match hs g with
  | some h => some h
  | none => E.ov g }

theorem EnvOK.withs {hs : FuncId → Option (List AV → Sig → Option (AV × Sig))} (hE : EnvOK P E) (hh : ∀ f h, hs f = some h → CallOK P E fun g args σ => if g = f then h args σ else none) : EnvOK P (E.withs hs) where
  ti := hE.ti
  fn := hE.fn
  ov g k e := by
    simp only [Env.withs] at e
    split at e
    · rename_i h hg
      simp only [Option.some.injEq] at e
      subst e
      exact CallOK.env (E := E) (E' := E.withs hs) rfl (hh g _ hg)
    · exact CallOK.env (E := E) (E' := E.withs hs) rfl (hE.ov g k e)
  ext := hE.ext
  flat := hE.flat
  mixed := hE.mixed
end
end Go.Ax
