/-
  AE at this seat: what the argument of EvlogNil reads as, as AE's values.
-/
import Derived.Test.YtjpcmbamjignnaaGreatDoorAxChain
import Derived.ChangeArms
import Derived.Deep.Slices
import Derived.ChangeShapes
namespace Go.Ax.Seat
open Go Go.Proofs Go.ChangeShapes
set_option maxRecDepth 100000
section
variable {H : Type} {enc : TypeId × Value → H} {w : World} {base : Nat} {sp : Nat → Bool} {held : Bool} {Γ : Gh}

theorem trod_int {t : TypeId} {k : IntKind} {fuel : Nat} {c : Value} {x : DataW H × List MemPlace} (ht : Tryz.prog.underlying t = some (.int k)) (h : DataW.trod enc Tryz.prog w base sp held fuel t [c] = some x) : ∃ n, c = .int k n := by
  cases fuel with
  | zero => simp [DataW.trod] at h
  | succ fuel =>
    unfold DataW.trod at h
    rw [ht] at h
    split at h <;> simp_all

theorem trod_str {t : TypeId} {fuel : Nat} {c : Value} {x : DataW H × List MemPlace} (ht : Tryz.prog.underlying t = some .string) (h : DataW.trod enc Tryz.prog w base sp held fuel t [c] = some x) : ∃ s, c = .string s := by
  cases fuel with
  | zero => simp [DataW.trod] at h
  | succ fuel =>
    unfold DataW.trod at h
    rw [ht] at h
    split at h <;> simp_all

theorem cells175 : Tryz.prog.cellsOf 175 = 4 := by kernel_rfl
theorem cells90 : Tryz.prog.cellsOf 90 = 9 := by kernel_rfl
theorem cells88 : Tryz.prog.cellsOf 88 = 2 := by kernel_rfl
theorem cells86 : Tryz.prog.cellsOf 86 = 1 := by kernel_rfl
theorem cells5 : Tryz.prog.cellsOf 5 = 1 := by kernel_rfl
theorem cells2 : Tryz.prog.cellsOf 2 = 1 := by kernel_rfl
theorem cells23 : Tryz.prog.cellsOf 23 = 1 := by kernel_rfl
theorem cells9 : Tryz.prog.cellsOf 9 = 1 := by kernel_rfl

theorem raw_read {fuel : Nat} {cs : List Value} {x : DataW H × List MemPlace} (h : DataW.trod enc Tryz.prog w base sp held fuel 175 cs = some x) : ∃ r : Raw, VsRel Γ w (inC r) cs := by
  obtain ⟨xs, n, rfl, _, hlen, hxs, hf⟩ := DataW.trod_struct Tryz.underlying175 h
  rw [cells175] at hlen
  have hx : xs.length = 4 := hxs
  match cs, hlen with
  | [c0, c1, c2, c3], _ =>
    have g0 : DataW.trod enc Tryz.prog w base sp held n 5 (([c0, c1, c2, c3].drop 0).take (Tryz.prog.cellsOf 5)) = xs[0]? := hf 0 _ rfl
    have g1 : DataW.trod enc Tryz.prog w base sp held n 2 (([c0, c1, c2, c3].drop 1).take (Tryz.prog.cellsOf 2)) = xs[1]? := hf 1 _ rfl
    have g2 : DataW.trod enc Tryz.prog w base sp held n 23 (([c0, c1, c2, c3].drop 2).take (Tryz.prog.cellsOf 23)) = xs[2]? := hf 2 _ rfl
    have g3 : DataW.trod enc Tryz.prog w base sp held n 9 (([c0, c1, c2, c3].drop 3).take (Tryz.prog.cellsOf 9)) = xs[3]? := hf 3 _ rfl
    rw [cells5, List.getElem?_eq_getElem (by omega)] at g0
    rw [cells2, List.getElem?_eq_getElem (by omega)] at g1
    rw [cells23, List.getElem?_eq_getElem (by omega)] at g2
    rw [cells9, List.getElem?_eq_getElem (by omega)] at g3
    obtain ⟨a, rfl⟩ := trod_int Tryz.underlying5 g0
    obtain ⟨b, rfl⟩ := trod_int Tryz.underlying2 g1
    obtain ⟨c, rfl⟩ := trod_int Tryz.underlying23 g2
    obtain ⟨s, rfl⟩ := trod_str Tryz.underlying9 g3
    exact ⟨(a, b, c, s), .cons (.int _ _) (.cons (.int _ _) (.cons (.int _ _) (.cons (.str _) .nil)))⟩

theorem insC_get (l : List Raw) {i j : Nat} (hi : i < l.length) (hj : j < 4) : (insC l)[i * 4 + j]? = (inC l[i])[j]? := by
  rw [← insC_cut l i hi]
  rw [List.getElem?_take_of_lt hj, List.getElem?_drop]

theorem add_none (b o n : Nat) : Addr.add ⟨b, o, none⟩ n = ⟨b, o + n, none⟩ := by
  unfold Addr.add
  split
  · rename_i h; subst h; rfl
  · rfl

theorem fields_rel {a : Addr} {len cap : Nat} (ha : a.spot = none) (hlen : len ≤ cap) (h : ∀ i, i < len → ∃ cs' : List Value, w.cells? base (a.add (i * 4)) 4 = some cs' ∧ ∃ r : Raw, VsRel Gh.none w (inC r) cs') :
    ∃ l : List Raw, l.length = len ∧ VRel Gh.none w (.slice .no len (insC l)) (.slice (some a) len cap) := by
  obtain ⟨b, o, s⟩ := a
  simp only at ha
  subst ha
  have h' : ∀ i : Fin len, ∃ r : Raw, ∃ cs' : List Value, w.cells? base (Addr.add ⟨b, o, none⟩ (i.1 * 4)) 4 = some cs' ∧ VsRel Gh.none w (inC r) cs' := fun i =>
    let ⟨cs', h1, r, h2⟩ := h i.1 i.2
    ⟨r, cs', h1, h2⟩
  obtain ⟨r, hr⟩ := Classical.axiomOfChoice h'
  refine ⟨List.ofFn r, by simp, ?_⟩
  have hl : (insC (List.ofFn r)).length = len * 4 := by rw [insC_length]; simp
  have key : ∀ k, k < len * 4 → ∃ v, w.cell? ⟨b, o + k, none⟩ = some v ∧ ∀ x, (insC (List.ofFn r))[k]? = some x → VRel Gh.none w x v := by
    intro k hk
    have hi : k / 4 < len := by omega
    have hj : k % 4 < 4 := Nat.mod_lt _ (by omega)
    obtain ⟨cs', h1, h2⟩ := hr ⟨k / 4, hi⟩
    have h3 : cs'.length = 4 := by rw [h2.length]; rfl
    unfold World.cells? at h1
    split at h1
    · have h4 := mapM_some_get h1 (k % 4) (k % 4) (by simp [hj])
      have e : (Addr.add (Addr.add ⟨b, o, none⟩ (k / 4 * 4)) (k % 4)) = ⟨b, o + k, none⟩ := by
        have e3 : o + k / 4 * 4 + k % 4 = o + k := by omega
        rw [add_none, add_none, e3]
      have hjl : k % 4 < cs'.length := by omega
      rw [e, List.getElem?_eq_getElem hjl] at h4
      refine ⟨_, h4, fun x hx => ?_⟩
      have e2 : k = k / 4 * 4 + k % 4 := by omega
      rw [e2, insC_get _ (by simpa using hi) hj] at hx
      simp only [List.getElem_ofFn] at hx
      obtain ⟨y, hy1, hy2⟩ := h2.getElem? hx
      rw [List.getElem?_eq_getElem hjl] at hy1
      simp only [Option.some.injEq] at hy1
      subst hy1
      exact hy2
    · simp at h1
  refine .slice .no len _ b o cap (fun k => (w.cell? ⟨b, o + k, none⟩).getD undef) hlen (fun k hk => ?_) (fun k hk => ?_) (fun _ => .inl rfl) trivial
  · obtain ⟨v, hv, _⟩ := key k (by omega)
    rw [hv]; rfl
  · obtain ⟨v, hv, hr⟩ := key k (by omega)
    simp only [hv, Option.getD_some]
    exact hr _ (List.getElem?_eq_getElem hk)

/-- The argument of EvlogNil. -/
theorem arg_read {r : Reach} {b0 : Nat} {v : Value} {d : DataW H} {ps : List MemPlace} (hval : Value.okWide Tryz.prog w r b0 90 v) (hd : DataW.Trod enc Tryz.prog w base sp held 90 v d ps) :
    ∃ (kd pb sq nw t N K : Int) (F Kp : AV), FieldsAV F ∧ KeepAV Kp ∧ VRel Gh.none w (.agg [.int .i64 kd, .int .u32 pb, .int .u64 sq, .int .u64 nw, .int .u8 t, F, .int .u8 N, .int .u8 K, Kp]) v := by
  unfold Value.okWide at hval
  rw [Tryz.underlying90] at hval
  simp only at hval
  obtain ⟨cs, rfl, hsz, ts, hts, _, hcell⟩ := hval
  have hts' : Tryz.prog.cellTypes Tryz.prog.depth 90 = some [3, 85, 23, 23, 5, 86, 5, 5, 30] := by kernel_rfl
  rw [hts'] at hts
  simp only [Option.some.injEq] at hts
  subst hts
  rw [cells90] at hsz
  obtain ⟨cl⟩ := cs
  simp only [List.size_toArray] at hsz
  match cl, hsz with
  | [c0, c1, c2, c3, c4, c5, c6, c7, c8], _ =>
    have intOf : ∀ {i : Nat} {c : Value} {u : TypeId} {k : IntKind}, (#[c0, c1, c2, c3, c4, c5, c6, c7, c8] : Array Value)[i]? = some c → ([3, 85, 23, 23, 5, 86, 5, 5, 30] : List TypeId)[i % 9]? = some u → Tryz.prog.underlying u = some (.int k) → ∃ n, c = .int k n := by
      intro i c u k h1 h2 h3
      obtain ⟨u', e1, e2⟩ := hcell i c h1
      have : u' = u := by
        have e1' : ([3, 85, 23, 23, 5, 86, 5, 5, 30] : List TypeId)[i % 9]? = some u' := e1
        rw [h2] at e1'
        exact (Option.some.inj e1').symm
      subst this
      unfold Cell.okWide Cell.ok at e2
      rw [h3] at e2
      cases c <;> simp at e2
      exact ⟨_, by rw [e2.1]⟩
    have sliceOf : ∀ {i : Nat} {c : Value} {u e : TypeId}, (#[c0, c1, c2, c3, c4, c5, c6, c7, c8] : Array Value)[i]? = some c → ([3, 85, 23, 23, 5, 86, 5, 5, 30] : List TypeId)[i % 9]? = some u → Tryz.prog.underlying u = some (.slice e) →
        c = .slice none 0 0 ∨ ∃ a len cap, c = .slice (some a) len cap ∧ len ≤ cap ∧ (cap : Int) ≤ IntKind.i64.max ∧ a.spot = none := by
      intro i c u e h1 h2 h3
      obtain ⟨u', e1, e2⟩ := hcell i c h1
      have : u' = u := by
        have e1' : ([3, 85, 23, 23, 5, 86, 5, 5, 30] : List TypeId)[i % 9]? = some u' := e1
        rw [h2] at e1'
        exact (Option.some.inj e1').symm
      subst this
      unfold Cell.okWide Cell.ok at e2
      rw [h3] at e2
      cases c <;> simp at e2
      rename_i a len cap
      cases a with
      | none =>
        left
        split at e2 <;> simp_all
      | some a =>
        right
        exact ⟨a, len, cap, rfl, e2.1, e2.2.1, e2.2.2.2.1⟩
    obtain ⟨kd, rfl⟩ := intOf (i := 0) rfl rfl Tryz.underlying3
    obtain ⟨pb, rfl⟩ := intOf (i := 1) rfl rfl Tryz.underlying85
    obtain ⟨sq, rfl⟩ := intOf (i := 2) rfl rfl Tryz.underlying23
    obtain ⟨nw, rfl⟩ := intOf (i := 3) rfl rfl Tryz.underlying23
    obtain ⟨t, rfl⟩ := intOf (i := 4) rfl rfl Tryz.underlying5
    obtain ⟨N, rfl⟩ := intOf (i := 6) rfl rfl Tryz.underlying5
    obtain ⟨K, rfl⟩ := intOf (i := 7) rfl rfl Tryz.underlying5
    obtain ⟨Kp, hK, hKr⟩ : ∃ Kp, KeepAV Kp ∧ VRel Gh.none w Kp c8 := by
      rcases sliceOf (i := 8) rfl rfl Tryz.underlying30 with rfl | ⟨⟨b, o, s⟩, len, cap, rfl, h1, _, h2⟩
      · exact ⟨.nils, .nil, .nils⟩
      · simp only at h2
        subst h2
        exact ⟨.slice .no len [], .some _ _ _, .slice .no len [] b o cap (fun _ => undef) h1 (fun i hi => by simp at hi) (fun i hi => by simp at hi) (fun h => absurd rfl h) trivial⟩
    obtain ⟨F, hF, hFr⟩ : ∃ F, FieldsAV F ∧ VRel Gh.none w F c5 := by
      rcases sliceOf (i := 5) rfl rfl Tryz.underlying86 with rfl | ⟨a, len, cap, rfl, h1, h2, h3⟩
      · exact ⟨.nils, .nil, .nils⟩
      · obtain ⟨fuel, hd⟩ := hd
        obtain ⟨xs, n, rfl, _, _, hxs, hf⟩ := DataW.trod_struct Tryz.underlying90 hd
        have g4 : DataW.trod enc Tryz.prog w base sp held n 88 (((Value.agg #[.int .i64 kd, .int .u32 pb, .int .u64 sq, .int .u64 nw, .int .u8 t, .slice (some a) len cap, .int .u8 N, .int .u8 K, c8]).cells.toList.drop 4).take (Tryz.prog.cellsOf 88)) = xs[4]? := hf 4 _ rfl
        have hx : xs.length = 8 := hxs
        rw [cells88, List.getElem?_eq_getElem (by omega)] at g4
        obtain ⟨ys, m, rfl, _, _, hys, hg⟩ := DataW.trod_struct Tryz.underlying88 g4
        have g1 : DataW.trod enc Tryz.prog w base sp held m 86 (([.int .u8 t, .slice (some a) len cap].drop 1).take (Tryz.prog.cellsOf 86)) = ys[1]? := hg 1 _ rfl
        have hy : ys.length = 2 := hys
        rw [cells86, List.getElem?_eq_getElem (by omega)] at g1
        rcases Deep.open_slice Tryz.underlying86 g1 with ⟨hc, _⟩ | ⟨a', len', cap', mm, nn, D, Pl, hc, _, _, _, hm, _, hel⟩
        · simp at hc
        · simp only [Value.cells, List.drop_succ_cons, List.drop_zero, List.take_succ_cons, List.take_zero, List.cons.injEq, Value.slice.injEq, Option.some.injEq, and_true] at hc
          obtain ⟨rfl, rfl, rfl⟩ := hc
          obtain ⟨l, hl, hv⟩ := fields_rel (w := w) (base := base) h3 h1 (fun i hi => by
            obtain ⟨cs', e1, e2⟩ := hel i (by rw [hm]; split <;> omega)
            rw [cells175] at e1
            exact ⟨cs', e1, raw_read e2⟩)
          refine ⟨.slice .no len (insC l), ?_, hv⟩
          rw [← hl]
          have hmx : IntKind.i64.max = 9223372036854775807 := by decide
          exact .some _ l (by omega)
    exact ⟨kd, pb, sq, nw, t, N, K, F, Kp, hF, hK, vrel_agg (.cons (.int _ _) (.cons (.int _ _) (.cons (.int _ _) (.cons (.int _ _) (.cons (.int _ _) (.cons hFr (.cons (.int _ _) (.cons (.int _ _) (.cons hKr .nil)))))))))⟩
end
end Go.Ax.Seat
