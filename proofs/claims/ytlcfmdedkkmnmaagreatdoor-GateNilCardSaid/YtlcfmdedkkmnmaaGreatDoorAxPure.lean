/-
  AE: operations on values alone.
-/
import Derived.Test.YtlcfmdedkkmnmaaGreatDoorAxOps
import Derived.Laws.BytesString
namespace Go.Ax
section
variable {P : Program} {E : Env} {Γ : Gh} {w : World}

/-- What a computation comes to is AE's value; the world is as it was. -/
def SemOK (P : Program) (s : Sem Value) (Γ : Gh) (w : World) (v : AV) : Prop := ∃ cv, s.run P w = .ok cv w ∧ VRel Γ w v cv

theorem vrel_int_inv {k : IntKind} {n : Int} {c : Value} (h : VRel Γ w (.int k n) c) : c = .int k n := by cases h; rfl
theorem vrel_bool_inv {b : Bool} {c : Value} (h : VRel Γ w (.bool b) c) : c = .bool b := by cases h; rfl
theorem vrel_str_inv {s : ByteArray} {c : Value} (h : VRel Γ w (.str s) c) : c = .string s := by cases h; rfl

theorem intOp_ok {op : BinOp} {k : IntKind} {a b : Int} {v : AV} (t : TypeId) (h : intOp op k a b = some v) :
    SemOK P (binOp op t (.int k a) (.int k b)) Γ w v := by
  have bits : ∀ op : BinOp, (op = .and ∨ op = .or ∨ op = .xor ∨ op = .andNot) → binOp op t (.int k a) (.int k b) = Op.intBits op k a b := by
    rintro op (rfl | rfl | rfl | rfl) <;> simp [binOp]
  cases op <;> simp only [intOp, reduceCtorEq] at h
  case quo =>
    split at h
    · simp at h
    · rename_i hb
      simp only [Option.some.injEq] at h
      subst h
      exact ⟨_, by simp [binOp, Op.intDiv, hb], .int _ _⟩
  case rem =>
    split at h
    · simp at h
    · rename_i hb
      simp only [Option.some.injEq] at h
      subst h
      exact ⟨_, by simp [binOp, Op.intDiv, hb], .int _ _⟩
  all_goals
    simp only [Option.some.injEq] at h
    subst h
  case and => exact ⟨_, by rw [bits _ (by simp)]; rfl, .int _ _⟩
  case or => exact ⟨_, by rw [bits _ (by simp)]; rfl, .int _ _⟩
  case xor => exact ⟨_, by rw [bits _ (by simp)]; rfl, .int _ _⟩
  case andNot => exact ⟨_, by rw [bits _ (by simp)]; rfl, .int _ _⟩
  all_goals
    first
      | exact ⟨_, by simp [binOp, Op.intArith], .int _ _⟩
      | exact ⟨_, by simp [binOp, Op.intCmp], .bool _⟩
      | exact ⟨.bool _, by simp [binOp, Op.intCmp]; rfl, .bool _⟩

theorem shiftOp_ok {op : BinOp} {k l : IntKind} {a b : Int} {v : AV} (t : TypeId) (ho : op = .shl ∨ op = .shr) (h : shiftOp op k a b = some v) :
    SemOK P (binOp op t (.int k a) (.int l b)) Γ w v := by
  unfold shiftOp at h
  split at h
  · simp at h
  · rename_i hb
    rcases ho with rfl | rfl
    · simp only [Option.some.injEq] at h
      subst h
      exact ⟨_, by simp [binOp, Op.shift, hb], .int _ _⟩
    · simp only [Option.some.injEq] at h
      subst h
      exact ⟨_, by simp [binOp, Op.shift, hb], .int _ _⟩

theorem strOp_ok {op : BinOp} {a b : ByteArray} {v : AV} (t : TypeId) (h : strOp op a b = some v) : SemOK P (binOp op t (.string a) (.string b)) Γ w v := by
  cases op <;> simp only [strOp, reduceCtorEq] at h
  case add =>
    split at h
    · simp at h
    · rename_i hb
      simp only [Option.some.injEq] at h
      subst h
      refine ⟨.string (a ++ b), ?_, .str _⟩
      simp only [binOp, Op.stringOp, if_neg hb]
      rfl
  all_goals
    simp only [Option.some.injEq] at h
    subst h
    exact ⟨_, rfl, .bool _⟩

/-- What '==' comes to, and that the test ahead of it lets the values by. -/
def EqOK (P : Program) (w : World) (op : BinOp) (t : TypeId) (ox oy : Operand) (cx cy : Value) (r : Bool) : Prop :=
  (eqGuard op t ox oy cx cy).run P w = .ok () w ∧ (Op.equal t cx cy).run P w = .ok r w ∧
    (∀ k l a b, ¬ (cx = .int k a ∧ cy = .int l b)) ∧ (∀ a b, ¬ (cx = .string a ∧ cy = .string b)) ∧ (∀ k l a b, ¬ (cx = .float k a ∧ cy = .float l b)) ∧ (∀ k l a b a' b', ¬ (cx = .complex k a b ∧ cy = .complex l a' b'))

theorem guard_scalar (op : BinOp) (t : TypeId) (ox oy : Operand) {cx cy : Value} (h1 : ¬ (cx = .nilIface ∧ cy = .nilIface)) (h2 : ∀ a b, ¬ (cx = .agg a ∧ cy = .agg b)) : (eqGuard op t ox oy cx cy).run P w = .ok () w := by
  have key : eqGuard op t ox oy cx cy = pure () ∨ eqGuard op t ox oy cx cy = eqGuard .eql t ox oy cx cy := by
    cases op <;> first | exact .inl rfl | exact .inr rfl
  rcases key with key | key
  · rw [key]; rfl
  · rw [key]
    simp only [eqGuard, Bool.not_true, Bool.false_eq_true, if_false]
    split
    · exact absurd ⟨rfl, rfl⟩ h1
    · exact absurd ⟨rfl, rfl⟩ (h2 _ _)
    · rfl

theorem guard_agg (op : BinOp) (t : TypeId) (ox oy : Operand) {cx cy : Array Value} (h : P.eqGuardType P.depth t = false) : (eqGuard op t ox oy (.agg cx) (.agg cy)).run P w = .ok () w := by
  have key : eqGuard op t ox oy (.agg cx) (.agg cy) = pure () ∨ eqGuard op t ox oy (.agg cx) (.agg cy) = eqGuard .eql t ox oy (.agg cx) (.agg cy) := by
    cases op <;> first | exact .inl rfl | exact .inr rfl
  rcases key with key | key
  · rw [key]; rfl
  · rw [key]
    simp only [eqGuard, Bool.not_true, Bool.false_eq_true, if_false]
    simp [h]

theorem nilEq_cases {f : AV → Option Bool} {x y : AV} {r : Bool} (h : nilEq f x y = some r) : (f x = some true ∧ f y = some r) ∨ (f x = some r ∧ f y = some true) := by
  unfold nilEq at h
  split at h
  · rename_i b h1 h2
    simp only [Option.some.injEq] at h
    subst h; exact .inl ⟨h1, h2⟩
  · rename_i b _ h1 h2
    simp only [Option.some.injEq] at h
    subst h; exact .inr ⟨h1, h2⟩
  · simp at h

theorem ptrNil_rel {x : AV} {b : Bool} (h : ptrNil x = some b) {c : Value} (hr : VRel Γ w x c) : (b = true ∧ c = .pointer none) ∨ (b = false ∧ ∃ a, c = .pointer (some a)) := by
  cases x <;> simp only [ptrNil, Option.some.injEq, reduceCtorEq] at h <;> subst h <;> cases hr <;> simp
theorem sliceNil_rel {x : AV} {b : Bool} (h : sliceNil x = some b) {c : Value} (hr : VRel Γ w x c) : (b = true ∧ c = .slice none 0 0) ∨ (b = false ∧ ∃ a n m, c = .slice (some a) n m) := by
  cases x <;> simp only [sliceNil, Option.some.injEq, reduceCtorEq] at h <;> subst h <;> cases hr <;> simp
theorem mapNil_rel {x : AV} {b : Bool} (h : mapNil x = some b) {c : Value} (hr : VRel Γ w x c) : (b = true ∧ c = .map none) ∨ (b = false ∧ ∃ a, c = .map (some a)) := by
  cases x <;> simp only [mapNil, Option.some.injEq, reduceCtorEq] at h <;> subst h <;> cases hr <;> simp
theorem funcNil_rel {x : AV} {b : Bool} (h : funcNil x = some b) {c : Value} (hr : VRel Γ w x c) : (b = true ∧ c = .nilFunc) ∨ (b = false ∧ ∃ f a d, c = .func f a d) := by
  cases x <;> simp only [funcNil, Option.some.injEq, reduceCtorEq] at h <;> subst h <;> cases hr <;> simp
theorem ifaceNil_rel {x : AV} {b : Bool} (h : ifaceNil x = some b) {c : Value} (hr : VRel Γ w x c) : (b = true ∧ c = .nilIface) ∨ (b = false ∧ ∃ t a, c = .iface t a) := by
  cases x <;> simp only [ifaceNil, Option.some.injEq, reduceCtorEq] at h <;> subst h <;> cases hr <;> simp

theorem equal_eq (t : TypeId) (x y : Value) : ∃ n, Op.equal t x y = Op.equalIn (n + 1) t x y := ⟨9999, rfl⟩

theorem eqOp_ok (hE : EnvOK P E) {t : TypeId} {x y : AV} {r : Bool} (h : eqOp E t x y = some r) {cx cy : Value} (hx : VRel Γ w x cx) (hy : VRel Γ w y cy) (op : BinOp) (ox oy : Operand) :
    EqOK P w op t ox oy cx cy r := by
  obtain ⟨n, hn⟩ := equal_eq t cx cy
  unfold eqOp at h
  split at h
  · simp at h
  · rename_i ti hti
    have hT := hE.ti t ti hti
    obtain ⟨d, hd, hk, _⟩ := hT.underlying
    split at h <;> (rename_i hkind)
    · simp only [hkind, KindOK] at hk
      subst hk
      unfold boolEq at h
      split at h
      · simp only [Option.some.injEq] at h
        subst h
        cases hx; cases hy
        exact ⟨guard_scalar _ _ _ _ (by simp) (by simp), by rw [hn]; simp [Op.equalIn, hd], by simp, by simp, by simp, by simp⟩
      · simp at h
    · simp only [hkind, KindOK] at hk
      subst hk
      rcases nilEq_cases h with ⟨h1, h2⟩ | ⟨h1, h2⟩
      · rcases ptrNil_rel h1 hx with ⟨_, rfl⟩ | ⟨e, _⟩
        · rcases ptrNil_rel h2 hy with ⟨rfl, rfl⟩ | ⟨rfl, a, rfl⟩ <;>
            exact ⟨guard_scalar _ _ _ _ (by simp) (by simp), by rw [hn]; simp [Op.equalIn, hd], by simp, by simp, by simp, by simp⟩
        · simp at e
      · rcases ptrNil_rel h2 hy with ⟨_, rfl⟩ | ⟨e, _⟩
        · rcases ptrNil_rel h1 hx with ⟨rfl, rfl⟩ | ⟨rfl, a, rfl⟩ <;>
            exact ⟨guard_scalar _ _ _ _ (by simp) (by simp), by rw [hn]; simp [Op.equalIn, hd], by simp, by simp, by simp, by simp⟩
        · simp at e
    · simp only [hkind, KindOK] at hk
      subst hk
      rcases nilEq_cases h with ⟨h1, h2⟩ | ⟨h1, h2⟩
      · rcases sliceNil_rel h1 hx with ⟨_, rfl⟩ | ⟨e, _⟩
        · rcases sliceNil_rel h2 hy with ⟨rfl, rfl⟩ | ⟨rfl, a, _, _, rfl⟩ <;>
            exact ⟨guard_scalar _ _ _ _ (by simp) (by simp), by rw [hn]; simp [Op.equalIn, hd], by simp, by simp, by simp, by simp⟩
        · simp at e
      · rcases sliceNil_rel h2 hy with ⟨_, rfl⟩ | ⟨e, _⟩
        · rcases sliceNil_rel h1 hx with ⟨rfl, rfl⟩ | ⟨rfl, a, _, _, rfl⟩ <;>
            exact ⟨guard_scalar _ _ _ _ (by simp) (by simp), by rw [hn]; simp [Op.equalIn, hd], by simp, by simp, by simp, by simp⟩
        · simp at e
    · simp only [hkind, KindOK] at hk
      subst hk
      rcases nilEq_cases h with ⟨h1, h2⟩ | ⟨h1, h2⟩
      · rcases mapNil_rel h1 hx with ⟨_, rfl⟩ | ⟨e, _⟩
        · rcases mapNil_rel h2 hy with ⟨rfl, rfl⟩ | ⟨rfl, a, rfl⟩ <;>
            exact ⟨guard_scalar _ _ _ _ (by simp) (by simp), by rw [hn]; simp [Op.equalIn, hd], by simp, by simp, by simp, by simp⟩
        · simp at e
      · rcases mapNil_rel h2 hy with ⟨_, rfl⟩ | ⟨e, _⟩
        · rcases mapNil_rel h1 hx with ⟨rfl, rfl⟩ | ⟨rfl, a, rfl⟩ <;>
            exact ⟨guard_scalar _ _ _ _ (by simp) (by simp), by rw [hn]; simp [Op.equalIn, hd], by simp, by simp, by simp, by simp⟩
        · simp at e
    · simp only [hkind, KindOK] at hk
      obtain ⟨_, _, _, rfl⟩ := hk
      rcases nilEq_cases h with ⟨h1, h2⟩ | ⟨h1, h2⟩
      · rcases funcNil_rel h1 hx with ⟨_, rfl⟩ | ⟨e, _⟩
        · rcases funcNil_rel h2 hy with ⟨rfl, rfl⟩ | ⟨rfl, a, _, _, rfl⟩ <;>
            exact ⟨guard_scalar _ _ _ _ (by simp) (by simp), by rw [hn]; simp [Op.equalIn, hd], by simp, by simp, by simp, by simp⟩
        · simp at e
      · rcases funcNil_rel h2 hy with ⟨_, rfl⟩ | ⟨e, _⟩
        · rcases funcNil_rel h1 hx with ⟨rfl, rfl⟩ | ⟨rfl, a, _, _, rfl⟩ <;>
            exact ⟨guard_scalar _ _ _ _ (by simp) (by simp), by rw [hn]; simp [Op.equalIn, hd], by simp, by simp, by simp, by simp⟩
        · simp at e
    · simp only [hkind, KindOK] at hk
      obtain ⟨_, rfl⟩ := hk
      unfold nilEqI at h
      split at h
      · rename_i h1 h2
        simp only [Option.some.injEq] at h
        subst h
        rcases ifaceNil_rel h1 hx with ⟨_, rfl⟩ | ⟨e, _⟩
        · rcases ifaceNil_rel h2 hy with ⟨e, _⟩ | ⟨_, _, _, rfl⟩
          · simp at e
          · exact ⟨guard_scalar _ _ _ _ (by simp) (by simp), by rw [hn]; simp [Op.equalIn, hd], by simp, by simp, by simp, by simp⟩
        · simp at e
      · rename_i h1 h2
        simp only [Option.some.injEq] at h
        subst h
        rcases ifaceNil_rel h2 hy with ⟨_, rfl⟩ | ⟨e, _⟩
        · rcases ifaceNil_rel h1 hx with ⟨e, _⟩ | ⟨_, _, _, rfl⟩
          · simp at e
          · exact ⟨guard_scalar _ _ _ _ (by simp) (by simp), by rw [hn]; simp [Op.equalIn, hd], by simp, by simp, by simp, by simp⟩
        · simp at e
      · simp at h
    · split at h
      · rename_i hf
        unfold aggEq at h
        split at h
        · obtain ⟨cx, rfl, rx⟩ := hx.agg_inv
          obtain ⟨cy, rfl, ry⟩ := hy.agg_inv
          obtain ⟨h1, h2⟩ := hE.flat t hf _ _ r h Γ w cx cy rx ry
          exact ⟨guard_agg _ _ _ _ h2, h1, by simp, by simp, by simp, by simp⟩
        · simp at h
      · simp at h
    · simp at h

theorem binOp_eql {t : TypeId} {cx cy : Value} {r : Bool} (h : (Op.equal t cx cy).run P w = .ok r w)
    (h1 : ∀ k l a b, ¬ (cx = .int k a ∧ cy = .int l b)) (h2 : ∀ a b, ¬ (cx = .string a ∧ cy = .string b)) (h3 : ∀ k l a b, ¬ (cx = .float k a ∧ cy = .float l b))
    (h4 : ∀ k l a b a' b', ¬ (cx = .complex k a b ∧ cy = .complex l a' b')) : (binOp .eql t cx cy).run P w = .ok (.bool r) w ∧ (binOp .neq t cx cy).run P w = .ok (.bool (!r)) w := by
  have e1 : binOp .eql t cx cy = (do pure (.bool (← Op.equal t cx cy))) := by
    unfold binOp
    split <;> first | rfl | (exfalso; simp_all; done) | skip
    all_goals (exfalso; first | exact h1 _ _ _ _ ⟨rfl, rfl⟩ | exact h2 _ _ ⟨rfl, rfl⟩ | exact h3 _ _ _ _ ⟨rfl, rfl⟩ | exact h4 _ _ _ _ _ _ ⟨rfl, rfl⟩)
  have e2 : binOp .neq t cx cy = (do pure (.bool (!(← Op.equal t cx cy)))) := by
    unfold binOp
    split <;> first | rfl | (exfalso; simp_all; done) | skip
    all_goals (exfalso; first | exact h1 _ _ _ _ ⟨rfl, rfl⟩ | exact h2 _ _ ⟨rfl, rfl⟩ | exact h3 _ _ _ _ ⟨rfl, rfl⟩ | exact h4 _ _ _ _ _ _ ⟨rfl, rfl⟩)
  rw [e1, e2]
  simp [h]

theorem binA_ok (hE : EnvOK P E) {op : BinOp} {t : TypeId} {x y v : AV} (h : binA E op t x y = some v) {cx cy : Value} (hx : VRel Γ w x cx) (hy : VRel Γ w y cy) (ox oy : Operand) :
    SemOK P (do eqGuard op t ox oy cx cy; binOp op t cx cy) Γ w v := by
  have guardInt : ∀ (op : BinOp) (k l : IntKind) (a b : Int), (eqGuard op t ox oy (.int k a) (.int l b)).run P w = .ok () w := fun op k l a b => guard_scalar _ _ _ _ (by simp) (by simp)
  have guardStr : ∀ (op : BinOp) (a b : ByteArray), (eqGuard op t ox oy (.string a) (.string b)).run P w = .ok () w := fun op a b => guard_scalar _ _ _ _ (by simp) (by simp)
  unfold binA at h
  split at h
  · rename_i k a l b
    cases hx; cases hy
    obtain ⟨cv, h1, h2⟩ := shiftOp_ok (P := P) (Γ := Γ) (w := w) (l := l) t (.inl rfl) h
    exact ⟨cv, by simp [guardInt, h1], h2⟩
  · rename_i k a l b
    cases hx; cases hy
    obtain ⟨cv, h1, h2⟩ := shiftOp_ok (P := P) (Γ := Γ) (w := w) (l := l) t (.inr rfl) h
    exact ⟨cv, by simp [guardInt, h1], h2⟩
  · rename_i hne1 hne2
    split at h
    · rename_i hkl
      subst hkl
      cases hx; cases hy
      obtain ⟨cv, h1, h2⟩ := intOp_ok (P := P) (Γ := Γ) (w := w) t h
      exact ⟨cv, by simp [guardInt, h1], h2⟩
    · simp at h
  · cases hx; cases hy
    obtain ⟨cv, h1, h2⟩ := strOp_ok (P := P) (Γ := Γ) (w := w) t h
    exact ⟨cv, by simp [guardStr, h1], h2⟩
  · cases hr : eqOp E t x y with
    | none => simp [hr] at h
    | some r =>
      simp only [hr, Option.map_some, Option.some.injEq] at h
      subst h
      obtain ⟨g, e, n1, n2, n3, n4⟩ := eqOp_ok hE hr hx hy .eql ox oy
      exact ⟨.bool r, by simp [g, (binOp_eql e n1 n2 n3 n4).1], .bool _⟩
  · cases hr : eqOp E t x y with
    | none => simp [hr] at h
    | some r =>
      simp only [hr, Option.map_some, Option.some.injEq] at h
      subst h
      obtain ⟨g, e, n1, n2, n3, n4⟩ := eqOp_ok hE hr hx hy .neq ox oy
      exact ⟨.bool (!r), by simp [g, (binOp_eql e n1 n2 n3 n4).2], .bool _⟩
  · simp at h

theorem unA_ok {op : UnOp} {x v : AV} (h : unA op x = some v) {cx : Value} (hx : VRel Γ w x cx) : SemOK P (Op.unary op cx) Γ w v := by
  unfold unA at h
  split at h
  · simp only [Option.some.injEq] at h
    subst h
    cases hx
    exact ⟨_, by simp [Op.unary, Op.intArith], .int _ _⟩
  · cases hx
    simp only [intOp, Option.some.injEq] at h
    subst h
    exact ⟨_, by simp [Op.unary, Op.intBits], .int _ _⟩
  · simp only [Option.some.injEq] at h
    subst h
    cases hx
    exact ⟨_, by simp [Op.unary], .bool _⟩
  · simp at h

theorem cellInts_rel : ∀ {cells : List AV} {l : List Int} {cs : List Value}, cellInts cells = some l → VsRel Γ w cells cs → cs = l.map (Value.int .u8)
  | [], l, cs, h, hr => by simp [cellInts] at h; subst h; cases hr; rfl
  | x :: xs, l, cs, h, hr => by
    unfold cellInts at h
    split at h
    · rename_i he; simp at he
    · rename_i n r he
      simp only [List.cons.injEq] at he
      obtain ⟨rfl, rfl⟩ := he
      split at h
      · rename_i l' hl
        simp only [Option.some.injEq] at h
        subst h
        cases hr with
        | cons h1 h2 =>
          cases h1
          rw [cellInts_rel hl h2]
          rfl
      · simp at h
    · simp at h

/-- The cells of a row, as a list. -/
theorem cells_run {cells : List AV} {b o : Nat} {c : Nat → Value} (hc : ∀ i, i < cells.length → w.cell? ⟨b, o + i, none⟩ = some (c i)) (n : Nat) (hn : cells.length = n) :
    (loadCells ⟨b, o, none⟩ n).run P w = .ok (fromTo c n).toArray w := by
  subst hn
  have h := run_loadCells_list (P := P) w ⟨b, o, none⟩ (fromTo c cells.length) (fun j v hj => by
    have hj' : j < cells.length := by
      obtain ⟨h, _⟩ := List.getElem?_eq_some_iff.1 hj
      simpa [fromTo] using h
    have e : v = c j := by simpa [fromTo, hj'] using hj.symm
    subst e
    unfold Addr.add
    split
    · rename_i h0; subst h0; simpa using hc 0 hj'
    · exact hc j hj')
  rwa [fromTo_length] at h

theorem convA_still (hE : EnvOK P E) {s d : TypeId} {x v : AV} (h : convA E s d x = some v) (hx : ∀ b, x = .str b → ∃ b', v = .str b') {cx : Value} (hr : VRel Γ w x cx) :
    SemOK P (convert s d cx) Γ w v := by
  unfold convA at h
  split at h
  · rename_i si di hs hd
    obtain ⟨ds, hds, hks, us⟩ := (hE.ti s si hs).underlying
    obtain ⟨dd, hdd, hkd, ud⟩ := (hE.ti d di hd).underlying
    split at h <;> (rename_i hkind) <;> simp only [hkind, KindOK] at hkd
    · simp only [Option.some.injEq] at h
      subst h
      cases hr
      subst hkd
      exact ⟨_, by simp [convert, hds, hdd, Conv.intToInt], .int _ _⟩
    · simp only [Option.some.injEq] at h
      subst h
      cases hr
      subst hkd
      refine ⟨_, ?_, .str _⟩
      simp only [convert, Sem.run_bind, hds, hdd, Result.andThen_ok]
      cases ds <;> rfl
    · -- a text's bytes: a new row
      exfalso
      split at h
      · split at h
        · simp only [Option.some.injEq] at h
          obtain ⟨b', hb⟩ := hx _ rfl
          subst h; simp at hb
        · simp at h
      · simp at h
    · cases hr
      subst hkd
      split at h
      · rename_i e hke
        simp only [hke, KindOK] at hks
        subst hks
        split at h
        · rename_i ei hei
          obtain ⟨de, hde, hke', _⟩ := (hE.ti e ei hei).underlying
          split at h
          · rename_i hk8
            simp only [Option.some.injEq] at h
            subst h
            simp only [hk8, KindOK] at hke'
            subst hke'
            exact ⟨_, by simp [convert, hds, hdd, hde, Conv.bytesToString], .str _⟩
          · simp at h
        · simp at h
      · simp at h
    · rename_i p len cells
      subst hkd
      split at h
      · rename_i e hke
        simp only [hke, KindOK] at hks
        subst hks
        split at h
        · rename_i ei hei
          obtain ⟨de, hde, hke', ue⟩ := (hE.ti e ei hei).underlying
          split at h
          · rename_i hk8
            obtain ⟨hk8, hlen⟩ := hk8
            simp only [hk8, KindOK] at hke'
            subst hke'
            cases hl : cellInts cells with
            | none => simp [hl] at h
            | some l =>
              simp only [hl, Option.map_some, Option.some.injEq] at h
              subst h
              cases hr with
              | slice p len cells b o cap c hle hc hr hi hp =>
                have hv := cellInts_rel hl (vsRel_fromTo hr)
                have hrun := cells_run (P := P) hc len hlen
                rw [← hlen, hv, hlen] at hrun
                refine ⟨_, ?_, .str _⟩
                rw [run_convert_bytes_string w s d e _ _ _ us ue ud]
                exact run_bytesToString w _ len cap l hrun
          · simp at h
        · simp at h
      · simp at h
    · simp at h
  · simp at h

theorem addOff_rel {p q : AV} {n : Nat} (h : addOff p n = some q) {c : Value} (hp : VRel Γ w p c) : ∃ a : Addr, c = .pointer (some a) ∧ a.spot = none ∧ VRel Γ w q (.pointer (some ⟨a.block, a.off + n, none⟩)) := by
  unfold addOff at h
  split at h <;> simp only [Option.some.injEq, reduceCtorEq] at h <;> subst h
  · cases hp with
    | obj _ _ b e => exact ⟨_, rfl, rfl, .obj _ _ b e⟩
  · cases hp with
    | loc _ _ _ _ b e => exact ⟨_, rfl, rfl, .loc _ _ _ _ b e⟩
  · cases hp with
    | ro _ _ b o c hc hr hi =>
      refine ⟨_, rfl, rfl, ?_⟩
      simp only [Nat.add_assoc]
      exact .ro _ _ b o c hc hr hi
  · cases hp; exact ⟨_, rfl, rfl, .glob _ _⟩

theorem Addr.add_none (a : Addr) (h : a.spot = none) (n : Nat) : a.add n = ⟨a.block, a.off + n, none⟩ := by
  unfold Addr.add
  split
  · rename_i h0; subst h0; cases a; simp_all
  · cases a; simp_all

theorem fieldOf_ok (hE : EnvOK P E) {t : TypeId} {i off : Nat} {fi : TI} (h : fieldOf E t i = some (off, fi)) :
    ∃ fields : Array Field, ∃ f : Field, (∀ u, (Go.underlying t).run P u = .ok (.struct fields) u) ∧ fields[i]? = some f ∧ f.offset = off ∧ TIok P f.type fi := by
  unfold fieldOf at h
  split at h
  · rename_i sz by_ ze fs hti
    obtain ⟨d, hd, hk, _⟩ := (hE.ti t _ hti).underlying
    simp only [KindOK] at hk
    obtain ⟨fields, rfl, hfs⟩ := hk
    split at h
    · rename_i off' ft hget
      split at h
      · rename_i fi' hfi
        simp only [Option.some.injEq, Prod.mk.injEq] at h
        obtain ⟨rfl, rfl⟩ := h
        rw [← hfs, List.getElem?_map] at hget
        cases hf : fields.toList[i]? with
        | none => simp [hf] at hget
        | some f =>
          simp only [hf, Option.map_some, Option.some.injEq, Prod.mk.injEq] at hget
          obtain ⟨rfl, rfl⟩ := hget
          exact ⟨fields, f, hd, by simpa using hf, rfl, hE.ti _ _ hfi⟩
      · simp at h
    · simp at h
  · simp at h

theorem fieldAddrA_ok (hE : EnvOK P E) {t : TypeId} {x v : AV} {i : Nat} (h : fieldAddrA E t x i = some v) {cx : Value} (hr : VRel Γ w x cx) : SemOK P (Instr.fieldAt t cx i) Γ w v := by
  unfold fieldAddrA at h
  split at h
  · rename_i off fi hf
    split at h
    · simp at h
    · rename_i hsz
      obtain ⟨fields, f, hu, hg, ho, hT⟩ := fieldOf_ok hE hf
      obtain ⟨a, rfl, hspot, hv⟩ := addOff_rel h hr
      refine ⟨_, ?_, hv⟩
      simp [Instr.fieldAt, hu, hg, Instr.sureAddr, fieldPlace, hT.size, hsz, Addr.add_none a hspot, ho]
  · simp at h

theorem fieldA_ok (hE : EnvOK P E) {t : TypeId} {x v : AV} {i : Nat} (h : fieldA E t x i = some v) {cx : Value} (hr : VRel Γ w x cx) : SemOK P (Instr.field t cx i) Γ w v := by
  unfold fieldA at h
  split at h
  · rename_i off fi cs hf
    obtain ⟨fields, f, hu, hg, ho, hT⟩ := fieldOf_ok hE hf
    obtain ⟨arr, rfl, hr'⟩ := hr.agg_inv
    split at h
    · rename_i l hl
      obtain ⟨cv, h1, h2⟩ := part_run (P := P) hT hr' hl h w
      refine ⟨cv, ?_, h2⟩
      simp [Instr.field, hu, hg, asAgg, ho, h1]
    · simp at h
  · simp at h

theorem indexAddrA_ok (hE : EnvOK P E) {t : TypeId} {x i v : AV} (h : indexAddrA E t x i = some v) {cx ci : Value} (hr : VRel Γ w x cx) (hi : VRel Γ w i ci) : SemOK P (Instr.indexAt t cx ci) Γ w v := by
  unfold indexAddrA at h
  split at h
  · rename_i ti k n hti
    obtain ⟨d, hd, hk, _⟩ := (hE.ti t _ hti).underlying
    cases hi
    split at h
    · rename_i e p len cs hkind
      simp only [hkind, KindOK] at hk
      subst hk
      split at h
      · rename_i ei hei
        split at h
        · rename_i hb
          obtain ⟨h0, h1, h2⟩ := hb
          simp only [Option.some.injEq] at h
          subst h
          cases hr with
          | slice _ _ _ b o cap c hle hc hr hi hp =>
            refine ⟨.pointer (some ⟨b, o + n.toNat * ei.size, none⟩), ?_, .ro _ _ b o c hc hr hi⟩
            simp [Instr.indexAt, asIntOf, hd, h0, h1, (hE.ti e ei hei).size, Addr.add_none]
        · simp at h
      · simp at h
    · rename_i len e hkind
      simp only [hkind, KindOK] at hk
      subst hk
      split at h
      · rename_i ei hei
        split at h
        · rename_i hb
          obtain ⟨h0, h1⟩ := hb
          obtain ⟨a, rfl, hspot, hv⟩ := addOff_rel h hr
          refine ⟨_, ?_, hv⟩
          simp [Instr.indexAt, asIntOf, hd, h0, h1, (hE.ti e ei hei).size, Addr.add_none a hspot, Instr.sureAddr]
        · simp at h
      · simp at h
    · simp at h
  · simp at h

theorem indexA_ok (hE : EnvOK P E) {t : TypeId} {x i v : AV} (h : indexA E t x i = some v) {cx ci : Value} (hr : VRel Γ w x cx) (hi : VRel Γ w i ci) : SemOK P (Instr.index t cx ci) Γ w v := by
  unfold indexA at h
  split at h
  · rename_i ti k n hti
    obtain ⟨d, hd, hk, _⟩ := (hE.ti t _ hti).underlying
    cases hi
    split at h
    · rename_i s hkind
      simp only [hkind, KindOK] at hk
      subst hk
      cases hr
      split at h
      · rename_i h0
        split at h
        · rename_i b hb
          simp only [Option.some.injEq] at h
          subst h
          exact ⟨_, by simp [Instr.index, asIntOf, hd, h0, hb], .int _ _⟩
        · simp at h
      · simp at h
    · rename_i len e cs hkind
      simp only [hkind, KindOK] at hk
      subst hk
      split at h
      · rename_i ei hei
        split at h
        · rename_i hb
          obtain ⟨h0, h1⟩ := hb
          obtain ⟨arr, rfl, hr'⟩ := hr.agg_inv
          split at h
          · rename_i l hl
            obtain ⟨cv, e1, e2⟩ := part_run (P := P) (hE.ti e ei hei) hr' hl h w
            refine ⟨cv, ?_, e2⟩
            simp [Instr.index, asIntOf, hd, h0, h1, (hE.ti e ei hei).size, e1]
          · simp at h
        · simp at h
      · simp at h
    · simp at h
  · simp at h

def ORelV (Γ : Gh) (w : World) (x : Option AV) (cx : Option Value) : Prop :=
  match x, cx with
  | none, none => True
  | some a, some c => VRel Γ w a c
  | _, _ => False

theorem bound_none {d most r : Nat} (h : bound none d most = some r) : r = d := by simpa [bound] using h.symm
theorem bound_some {a : AV} {d most r : Nat} (h : bound (some a) d most = some r) {c : Value} (hr : VRel Γ w a c) (most' : Nat) (hm : most ≤ most') (code : BoundsCode) :
    (Instr.sliceBound c most' code).run P w = .ok r w ∧ r ≤ most := by
  unfold bound at h
  split at h
  · rename_i e; simp at e
  · rename_i k n e
    simp only [Option.some.injEq] at e
    subst e
    split at h
    · rename_i hb
      simp only [Option.some.injEq] at h
      subst h
      cases hr
      have hb' : 0 ≤ n ∧ n ≤ (most' : Int) := ⟨hb.1, by omega⟩
      exact ⟨by simp [Instr.sliceBound, asIntOf, hb'], by omega⟩
    · simp at h
  · simp at h

/-- The bounds of a slice expression without a third one. -/
theorem bounds2_run (isS : Bool) {lo hi : Option AV} {cl ch : Option Value} (hl : ORelV Γ w lo cl) (hh : ORelV Γ w hi ch) {len h l : Nat} (cap : Nat) (hcap : len ≤ cap)
    (h1 : bound hi len len = some h) (h2 : bound lo 0 h = some l) : (Instr.sliceBounds isS len cap cl ch none).run P w = .ok (l, h, cap) w ∧ h ≤ len ∧ l ≤ h := by
  cases hi <;> cases ch <;> simp only [ORelV] at hh <;> cases lo <;> cases cl <;> simp only [ORelV] at hl
  · have e1 := bound_none h1; have e2 := bound_none h2
    subst e1 e2
    exact ⟨by simp [Instr.sliceBounds], by omega, by omega⟩
  · have e1 := bound_none h1
    subst e1
    obtain ⟨r2, b2⟩ := bound_some (P := P) h2 hl h (Nat.le_refl _) .sliceB
    exact ⟨by simp [Instr.sliceBounds, r2], by omega, b2⟩
  · have e2 := bound_none h2
    subst e2
    obtain ⟨r1, b1⟩ := bound_some (P := P) h1 hh cap hcap (if isS = true then .sliceAcap else .sliceAlen)
    exact ⟨by simp [Instr.sliceBounds, r1], b1, by omega⟩
  · obtain ⟨r1, b1⟩ := bound_some (P := P) h1 hh cap hcap (if isS = true then .sliceAcap else .sliceAlen)
    obtain ⟨r2, b2⟩ := bound_some (P := P) h2 hl h (Nat.le_refl _) .sliceB
    exact ⟨by simp [Instr.sliceBounds, r1, r2], b1, b2⟩

/-- With a third one. -/
theorem bounds3_run {lo : Option AV} {hi mx : AV} {cl : Option Value} {ch cm : Value} (hl : ORelV Γ w lo cl) (hh : VRel Γ w hi ch) (hm : VRel Γ w mx cm) {len m h l : Nat} (d1 d2 cap : Nat) (hcap : len ≤ cap)
    (h0 : bound (some mx) d1 len = some m) (h1 : bound (some hi) d2 m = some h) (h2 : bound lo 0 h = some l) :
    (Instr.sliceBounds true len cap cl (some ch) (some cm)).run P w = .ok (l, h, m) w ∧ m ≤ len ∧ h ≤ m ∧ l ≤ h := by
  obtain ⟨r0, b0⟩ := bound_some (P := P) h0 hm cap hcap .slice3Acap
  obtain ⟨r1, b1⟩ := bound_some (P := P) h1 hh m (Nat.le_refl _) .slice3B
  cases lo <;> cases cl <;> simp only [ORelV] at hl
  · have e2 := bound_none h2
    subst e2
    exact ⟨by simp [Instr.sliceBounds, r0, r1], b0, b1, by omega⟩
  · obtain ⟨r2, b2⟩ := bound_some (P := P) h2 hl h (Nat.le_refl _) .slice3C
    exact ⟨by simp [Instr.sliceBounds, r0, r1, r2], b0, b1, b2⟩

theorem Gh.imm_le {b n n' : Nat} (h : Γ.imm b n) (hle : n' ≤ n) : Γ.imm b n' := by
  rcases h with h | ⟨m, o, h, hm⟩
  · exact .inl h
  · exact .inr ⟨m, o, h, by omega⟩

/-- A part of a row. -/
theorem sub_cells {cells : List AV} {b o : Nat} {c : Nat → Value} (hc : ∀ i, i < cells.length → w.cell? ⟨b, o + i, none⟩ = some (c i))
    (hr : ∀ i (h : i < cells.length), VRel Γ w cells[i] (c i)) (k n : Nat) (hk : k + n ≤ cells.length) :
    (∀ i, i < ((cells.drop k).take n).length → w.cell? ⟨b, o + k + i, none⟩ = some (c (k + i))) ∧ (∀ i (h : i < ((cells.drop k).take n).length), VRel Γ w ((cells.drop k).take n)[i] (c (k + i))) ∧
      ((cells.drop k).take n).length = n := by
  have hlen : ((cells.drop k).take n).length = n := by simp; omega
  refine ⟨fun i h => ?_, fun i h => ?_, hlen⟩
  · rw [Nat.add_assoc]; exact hc (k + i) (by omega)
  · simpa using hr (k + i) (by omega)

theorem sub_row {cells : List AV} {b o : Nat} {c : Nat → Value} (hc : ∀ i, i < cells.length → w.cell? ⟨b, o + i, none⟩ = some (c i))
    (hr : ∀ i (h : i < cells.length), VRel Γ w cells[i] (c i)) (hi : cells ≠ [] → Γ.imm b (o + cells.length)) (k n : Nat) (hk : k + n ≤ cells.length) :
    (∀ i, i < ((cells.drop k).take n).length → w.cell? ⟨b, o + k + i, none⟩ = some (c (k + i))) ∧ (∀ i (h : i < ((cells.drop k).take n).length), VRel Γ w ((cells.drop k).take n)[i] (c (k + i))) ∧
      ((cells.drop k).take n ≠ [] → Γ.imm b (o + k + ((cells.drop k).take n).length)) ∧ ((cells.drop k).take n).length = n := by
  obtain ⟨h1, h2, h3⟩ := sub_cells hc hr k n hk
  refine ⟨h1, h2, fun hne => ?_, h3⟩
  have : 0 < ((cells.drop k).take n).length := List.length_pos_iff.2 hne
  have hne' : cells ≠ [] := by intro e; subst e; simp at hk; omega
  exact Gh.imm_le (hi hne') (by omega)

/-- What a slice is, nil or not: its address, where there is one, its capacity. -/
theorem sliceParts_rel {x : AV} {p : Perm} {len : Nat} {cs : List AV} (h : sliceParts x = some (p, len, cs)) {cx : Value} (hr : VRel Γ w x cx) :
    (x = .nils ∧ cx = .slice none 0 0 ∧ p = .exact ∧ len = 0 ∧ cs = []) ∨
    ∃ b o cap, ∃ c : Nat → Value, x = .slice p len cs ∧ cx = .slice (some ⟨b, o, none⟩) len cap ∧ len ≤ cap ∧ (∀ i, i < cs.length → w.cell? ⟨b, o + i, none⟩ = some (c i)) ∧
      (∀ i (h : i < cs.length), VRel Γ w cs[i] (c i)) ∧ (cs ≠ [] → Γ.imm b (o + cs.length)) ∧ PermOK Γ w cs.length b o len cap p := by
  unfold sliceParts at h
  split at h
  · simp only [Option.some.injEq, Prod.mk.injEq] at h
    obtain ⟨rfl, rfl, rfl⟩ := h
    cases hr
    exact .inl ⟨rfl, rfl, rfl, rfl, rfl⟩
  · simp only [Option.some.injEq, Prod.mk.injEq] at h
    obtain ⟨rfl, rfl, rfl⟩ := h
    cases hr with
    | slice _ _ _ b o cap c hle hc hr hi hp => exact .inr ⟨b, o, cap, c, rfl, rfl, hle, hc, hr, hi, hp⟩
  · simp at h

theorem cutSlice_rel {x : AV} {p p' : Perm} {len : Nat} {cs : List AV} {cx : Value} (hx : sliceParts x = some (p, len, cs)) (hr : VRel Γ w x cx) {sz l h m : Nat} (hlen : cs.length = len * sz) (hl : l ≤ h) (hh : h ≤ len)
    (base : Option Addr) (n cap : Nat) (hcx : cx = .slice base n cap) (hm : h ≤ m) (hmc : m ≤ cap)
    (hp : ∀ b o, base = some ⟨b, o, none⟩ → PermOK Γ w cs.length b o len cap p → PermOK Γ w ((h - l) * sz) b (if m = l then o else o + l * sz) (h - l) (m - l) p') :
    VRel Γ w (cutSlice x p' sz cs l h) (.slice (if m = l then base else base.map (·.add (l * sz))) (h - l) (m - l)) := by
  rcases sliceParts_rel hx hr with ⟨rfl, rfl, rfl, rfl, rfl⟩ | ⟨b, o, cap', c, rfl, rfl, hle, hc, hr', hi, hp'⟩
  · simp only [Value.slice.injEq] at hcx
    obtain ⟨rfl, rfl, rfl⟩ := hcx
    have e1 : h = 0 := by omega
    have e2 : l = 0 := by omega
    have e3 : m = 0 := by omega
    subst e1 e2 e3
    exact .nils
  · simp only [Value.slice.injEq] at hcx
    obtain ⟨rfl, rfl, rfl⟩ := hcx
    have hmul : l * sz + (h - l) * sz ≤ cs.length := by
      rw [hlen, ← Nat.add_mul]
      exact Nat.mul_le_mul_right sz (by omega)
    obtain ⟨s1, s2, s3, s4⟩ := sub_row hc hr' hi (l * sz) ((h - l) * sz) hmul
    simp only [cutSlice]
    have hperm := hp b o rfl hp'
    by_cases hml : m = l
    · have : h = l := by omega
      subst this
      simp only [hml, if_true] at hperm ⊢
      have hnil : (cs.drop (h * sz)).take ((h - h) * sz) = [] := by simp
      rw [hnil]
      refine .slice _ _ _ b o _ (fun _ => .nilIface) (by omega) (by simp) (by simp) (by simp) ?_
      simpa using hperm
    · simp only [hml, if_false, Option.map_some] at hperm ⊢
      rw [Addr.add_none _ rfl]
      refine .slice _ _ _ b (o + l * sz) _ (fun i => c (l * sz + i)) (by omega) s1 s2 s3 ?_
      rw [s4]; exact hperm

theorem sliceA_ok (hE : EnvOK P E) {t : TypeId} {x v : AV} {lo hi mx : Option AV} (h : sliceA E t x lo hi mx = some v) {cx : Value} {cl ch cm : Option Value}
    (hr : VRel Γ w x cx) (hl : ORelV Γ w lo cl) (hh : ORelV Γ w hi ch) (hm : ORelV Γ w mx cm) : SemOK P (Instr.sliceAt t cx cl ch cm) Γ w v := by
  unfold sliceA at h
  split at h
  · simp at h
  · rename_i ti hti
    obtain ⟨d, hd, hk, _⟩ := (hE.ti t _ hti).underlying
    split at h
    · rename_i s hkind
      simp only [hkind, KindOK] at hk
      subst hk
      cases hr
      split at h
      · simp at h
      · cases cm <;> simp only [ORelV] at hm
        split at h
        · simp at h
        · rename_i hv hh1
          split at h
          · simp at h
          · rename_i lv hl1
            simp only [Option.some.injEq] at h
            subst h
            obtain ⟨r, b1, b2⟩ := bounds2_run (P := P) false hl hh s.size (Nat.le_refl _) hh1 hl1
            exact ⟨_, by simp [Instr.sliceAt, Instr.slice, hd, r], .str _⟩
    · rename_i e hkind
      simp only [hkind, KindOK] at hk
      subst hk
      split at h
      · rename_i ei p len cs hei hparts
        split at h
        · simp at h
        · rename_i hlen
          have hlen : cs.length = len * ei.size := by simpa using hlen
          have hsz := (hE.ti e ei hei).size (P := P) w
          obtain ⟨base, cap, hcx, hcap⟩ : ∃ base cap, cx = .slice base len cap ∧ len ≤ cap := by
            rcases sliceParts_rel hparts hr with ⟨_, rfl, _, rfl, _⟩ | ⟨b, o, cap, c, _, rfl, hle, _⟩
            · exact ⟨none, 0, rfl, Nat.le_refl _⟩
            · exact ⟨_, cap, rfl, hle⟩
          split at h
          · cases cm <;> simp only [ORelV] at hm
            split at h
            · simp at h
            · rename_i hv hh1
              split at h
              · simp at h
              · rename_i lv hl1
                simp only [Option.some.injEq] at h
                subst h
                obtain ⟨r, b1, b2⟩ := bounds2_run (P := P) true hl hh cap hcap hh1 hl1
                refine ⟨_, ?_, cutSlice_rel hparts hr hlen b2 b1 base len cap hcx (by omega) (Nat.le_refl _) ?_⟩
                · subst hcx
                  simp [Instr.sliceAt, Instr.slice, hd, r, hsz]
                · intro b o hbase hp
                  by_cases h0 : lv = 0 ∧ hv = len
                  · rw [if_pos h0]
                    obtain ⟨rfl, rfl⟩ := h0
                    simp only [Nat.sub_zero, Nat.zero_mul, Nat.add_zero, ite_self]
                    rw [← hlen]; exact hp
                  · rw [if_neg h0]
                    by_cases h1 : hv = len ∧ p = .exact
                    · rw [if_pos h1]
                      obtain ⟨rfl, rfl⟩ := h1
                      simp only [PermOK] at hp ⊢
                      omega
                    · rw [if_neg h1]; trivial
          · split at h
            · simp at h
            · rename_i mv hm1
              split at h
              · simp at h
              · split at h
                · simp at h
                · rename_i hv hh1
                  split at h
                  · simp at h
                  · rename_i lv hl1
                    simp only [Option.some.injEq] at h
                    subst h
                    cases cm <;> simp only [ORelV] at hm
                    cases ch <;> simp only [ORelV] at hh
                    obtain ⟨r, b0, b1, b2⟩ := bounds3_run (P := P) hl hh hm 0 0 cap hcap hm1 hh1 hl1
                    refine ⟨_, ?_, cutSlice_rel (m := mv) hparts hr hlen b2 (by omega) base len cap hcx b1 (by omega) ?_⟩
                    · subst hcx
                      simp [Instr.sliceAt, Instr.slice, hd, r, hsz]
                    · intro b o hbase hp
                      by_cases h1 : mv = hv
                      · rw [if_pos h1]
                        subst h1
                        simp only [PermOK]
                      · rw [if_neg h1]; trivial
      · simp at h
    · simp at h

theorem extract_ok {x v : AV} {i : Nat} (h : extractA x i = some v) {cx : Value} (hr : VRel Γ w x cx) : SemOK P (Instr.extract cx i) Γ w v := by
  unfold extractA at h
  split at h
  · obtain ⟨arr, rfl, hr'⟩ := hr.tuple_inv
    obtain ⟨c, h1, h2⟩ := hr'.getElem? h
    have h1' : arr[i]? = some c := by simpa using h1
    exact ⟨c, by simp [Instr.extract, h1'], h2⟩
  · simp at h

theorem max2A_ok {x y v : AV} (h : max2A x y = some v) {cx cy : Value} (hx : VRel Γ w x cx) (hy : VRel Γ w y cy) : SemOK P (Builtin.max2 cx cy) Γ w v := by
  unfold max2A at h
  split at h
  · split at h
    · rename_i hk
      subst hk
      simp only [Option.some.injEq] at h
      subst h
      cases hx; cases hy
      exact ⟨_, by simp [Builtin.max2], .int _ _⟩
    · simp at h
  · simp at h

theorem min2A_ok {x y v : AV} (h : min2A x y = some v) {cx cy : Value} (hx : VRel Γ w x cx) (hy : VRel Γ w y cy) : SemOK P (Builtin.min2 cx cy) Γ w v := by
  unfold min2A at h
  split at h
  · split at h
    · rename_i hk
      subst hk
      simp only [Option.some.injEq] at h
      subst h
      cases hx; cases hy
      exact ⟨_, by simp [Builtin.min2], .int _ _⟩
    · simp at h
  · simp at h

theorem foldA_ok {f : AV → AV → Option AV} {g : Value → Value → Sem Value} (hf : ∀ x y v cx cy, f x y = some v → VRel Γ w x cx → VRel Γ w y cy → SemOK P (g cx cy) Γ w v) :
    ∀ {l : List AV} {x v : AV} {cs : List Value} {cx : Value}, foldA f x l = some v → VRel Γ w x cx → VsRel Γ w l cs → SemOK P (cs.foldlM g cx) Γ w v
  | [], x, v, cs, cx, h, hx, hl => by
    simp only [foldA, Option.some.injEq] at h
    subst h
    cases hl
    exact ⟨cx, rfl, hx⟩
  | y :: r, x, v, cs, cx, h, hx, hl => by
    simp only [foldA] at h
    split at h
    · rename_i z hz
      cases hl with
      | cons hy hr =>
        obtain ⟨cz, h1, h2⟩ := hf _ _ _ _ _ hz hx hy
        obtain ⟨cv, h3, h4⟩ := foldA_ok hf h h2 hr
        exact ⟨cv, by simp [List.foldlM_cons, h1, h3], h4⟩
    · simp at h

theorem lenA_ok (hE : EnvOK P E) {t : TypeId} {x v : AV} (h : lenA E t x = some v) {ts : Array TypeId} {as : Array Value} {cx : Value} (ht : ts[0]? = some t) (ha : as[0]? = some cx) (hr : VRel Γ w x cx) (ty : TypeId) :
    SemOK P (Builtin.len_ ts ty as) Γ w v := by
  unfold lenA at h
  split at h
  · rename_i ti hti
    obtain ⟨d, hd, hk, _⟩ := (hE.ti t _ hti).underlying
    split at h <;> (rename_i hkind) <;> simp only [hkind, KindOK] at hk <;> simp only [Option.some.injEq, reduceCtorEq] at h
    · subst hk; subst h; cases hr
      exact ⟨_, by simp [Builtin.len_, ht, ha, hd, goInt], .int _ _⟩
    · subst hk; subst h; cases hr
      exact ⟨_, by simp [Builtin.len_, ht, ha, hd, goInt], .int _ _⟩
    · subst hk; subst h; cases hr
      exact ⟨_, by simp [Builtin.len_, ht, ha, hd, goInt], .int _ _⟩
    · subst hk; subst h; cases hr
      exact ⟨_, by simp [Builtin.len_, ht, ha, hd, goInt], .int _ _⟩
    · subst hk; subst h
      exact ⟨_, by simp [Builtin.len_, ht, ha, hd, goInt], .int _ _⟩
  · simp at h
end
end Go.Ax
