/-
  SX, part 7: the operations that read blocks.
-/
import Derived.Test.YtoaagilfkboepaaGreatDoorSxPureAll
import Derived.Laws.Cells
set_option linter.unusedSimpArgs false
set_option linter.unusedVariables false
namespace Go.Sx

variable {P : Program} {types : TypeId → Option TInfo} (T : TyOk P types) {β : Emb} (w : World)

theorem cell_of {w : World} {c : Nat} {cs : Array Value} {e : TypeId} {fz : Nat × Nat} (h : w.heap[c]? = some (.cells cs e fz)) (o : Nat) : w.cell? ⟨c, o, none⟩ = cs[o]? := by
  simp [World.cell?, h]

/-- Cells of a block, read. -/
theorem run_loadCells_of {w : World} {c : Nat} {cs : Array Value} {e : TypeId} {fz : Nat × Nat} (h : w.heap[c]? = some (.cells cs e fz)) {o n : Nat} (hn : o + n ≤ cs.size) :
    (loadCells ⟨c, o, none⟩ n).run P w = .ok (((cs.toList.drop o).take n).toArray) w := by
  have hl : ((cs.toList.drop o).take n).length = n := by simp; omega
  have := run_loadCells_list (P := P) (w := w) ⟨c, o, none⟩ ((cs.toList.drop o).take n) (fun j v hj => by
    have hj' : j < n := by
      have := (List.getElem?_eq_some_iff.1 hj).1; omega
    have e : Addr.add (⟨c, o, none⟩ : Addr) j = ⟨c, o + j, none⟩ := by
      unfold Addr.add; split
      · rename_i h0; simp [h0]
      · rfl
    rw [e, cell_of h]
    rw [List.getElem?_take] at hj
    simp [hj', List.getElem?_drop] at hj
    simpa using hj)
  rw [hl] at this
  exact this

theorem CellsR.read {vs l : List AVal} {cs : Array Value} {base off n : Nat} (h : CellsR β vs cs base) (hr : readCells vs off n = some l) :
    VRs β l ((cs.toList.drop (base + off)).take n) ∧ l.all AVal.one = true ∧ base + off + n ≤ cs.size ∨ n = 0 ∧ l = [] := by
  obtain ⟨rfl, hl⟩ := readCells_spec hr
  by_cases hn : n = 0
  · right; subst hn; simp
  left
  have hlen : off + n ≤ vs.length := by simp at hl; omega
  have hsz : base + off + n ≤ cs.size := by
    obtain ⟨_, v, hv, _⟩ := h (off + n - 1) _ (List.getElem?_eq_getElem (by omega))
    have := (Array.getElem?_eq_some_iff.1 hv).1
    omega
  refine ⟨VRs.of_get (by simp; omega) fun i a hi => ?_, ?_, hsz⟩
  · have hi' : i < n := by
      have := (List.getElem?_eq_some_iff.1 hi).1; omega
    rw [List.getElem?_take, if_pos hi', List.getElem?_drop] at hi
    obtain ⟨_, v, hv, hr⟩ := h _ _ hi
    refine ⟨v, ?_, hr⟩
    rw [List.getElem?_take, if_pos hi', List.getElem?_drop]
    rw [← Nat.add_assoc] at hv
    simpa using hv
  · rw [List.all_eq_true]
    intro x hx
    have hx' := List.mem_of_mem_drop (List.mem_of_mem_take hx)
    obtain ⟨i, hi⟩ := List.getElem?_of_mem hx'
    exact (h i x hi).1

include T in
theorem load_sound {H : AHeap} (hR : Rel β H w.heap) {t : TypeId} {i : TInfo} (hi : types t = some i) {b off : Nat} {x : Value} (hx : VR β (.ptr b off) x) {vs : List AVal} {ro : Bool} {ty : Option (TypeId × Bool)} (hb : H.get b = some (.cells vs ro ty)) {v : AVal} (h : partOf i vs off = some v) :
    ∃ v' ad, x = .pointer (some ad) ∧ (loadVar t ad).run P w = .ok v' w ∧ VR β v v' := by
  obtain ⟨c, base, n, rfl, hβ⟩ := hx.ptr_inv
  obtain ⟨cs, e, fz, hh, hsz, hl, hc, _⟩ := hR.obj b _ _ hb hβ
  simp only at hh hsz hl hc
  unfold partOf at h
  split at h
  · rename_i ha
    cases hr : readCells vs off i.size with
    | none => simp [hr] at h
    | some l =>
      simp [hr] at h
      subst h
      rcases hc.read hr with ⟨q1, q2, q3⟩ | ⟨q1, q2⟩
      · refine ⟨.agg ((cs.toList.drop (base + off)).take i.size).toArray, _, rfl, ?_, .agg _ _ (by simpa using q1) q2⟩
        simp only [loadVar, Sem.run_bind, T.run_isAgg hi, Result.andThen_ok, ha, if_true, T.run_sizeOf hi, Sem.run_pure]
        rw [run_loadCells_of hh q3]; rfl
      · subst q2
        refine ⟨.agg #[], _, rfl, ?_, .agg _ _ .nil rfl⟩
        simp only [loadVar, Sem.run_bind, T.run_isAgg hi, Result.andThen_ok, ha, if_true, T.run_sizeOf hi, Sem.run_pure, q1]
        rfl
  · rename_i ha
    obtain ⟨_, v', hv, hr⟩ := hc _ _ h
    refine ⟨v', _, rfl, ?_, hr⟩
    simp only [loadVar, Sem.run_bind, T.run_isAgg hi, Result.andThen_ok, ha, if_false, Bool.false_eq_true]
    simp [cell_of hh, hv]

/-! ### Maps -/

theorem EntriesR.get {es : List AEntry} {es' : List MapEntry} (h : EntriesR β es es') {i : Nat} {e : AEntry} (he : es[i]? = some e) : ∃ e', es'[i]? = some e' ∧ EntryR β e e' := by
  induction es generalizing es' i with
  | nil => simp at he
  | cons x es ih =>
    obtain ⟨e', l', rfl, hr, hs⟩ := h
    cases i with
    | zero => simp at he; subst he; exact ⟨e', by simp, hr⟩
    | succ i => simp at he; obtain ⟨u, hu, g⟩ := ih hs he; exact ⟨u, by simpa using hu, g⟩

theorem EntriesR.length {es : List AEntry} {es' : List MapEntry} (h : EntriesR β es es') : es.length = es'.length := by
  induction es generalizing es' with
  | nil => simp only [EntriesR] at h; subst h; rfl
  | cons x es ih => obtain ⟨e', l', rfl, hr, hs⟩ := h; simp [ih hs]

theorem beq_data (a b : ByteArray) : (a == b) = (a.data.toList == b.data.toList) := by rw [beq_toListBytes, data_eq]

include T in
/-- '==' at whatever depth. -/
theorem aEqual_equalIn {t : TypeId} {i : TInfo} (hi : types t = some i) {x y : AVal} {x' y' : Value} (hx : VR β x x') (hy : VR β y y') {b : Bool} (h : aEqual types i x y = some b)
    (hk : (match i.desc with | .int _ | .string | .struct _ => true | _ => false) = true) (d : Nat) : (Op.equalIn (d + 2) t x' y').run P w = .ok b w := by
  replace h := aEqual_conc hx hy h
  replace hx := hx.conc
  replace hy := hy.conc
  generalize x.conc = x at *
  generalize y.conc = y at *
  unfold aEqualC at h
  split at h
  · split at h
    · rename_i hp
      split at h
      · rename_i fs hd
        cases hx with | agg _ xs' hxs _ =>
        cases hy with | agg _ ys' hys _ =>
        exact struct_equalIn T w hi hp hd hxs hys h d
      · cases h
    · cases h
  · have hs : scalarDesc i.desc = true := by
      unfold aEql at h
      split at h <;> simp_all [scalarDesc]
    exact scalar_equalIn T w hi hs hx hy h (d + 1)

/-- What the lookup of a key answers. -/
def FoundR (β : Emb) (es' : List MapEntry) : Option (Nat × AVal) → Option (Nat × Value) → Prop
  | none, r => r = none
  | some (j, v), r => ∃ v' e', r = some (j, v') ∧ VR β v v' ∧ es'[j]? = some e' ∧ e'.val = v'

include T in
theorem findAsking_sound {t : TypeId} {ki : TInfo} (hi : types t = some ki) (hk : (match ki.desc with | .int _ | .string | .struct _ => true | _ => false) = true) {k : AVal} {k' : Value} (hkk : VR β k k') :
    ∀ (es : List AEntry) (es' all : List MapEntry) (n : Nat) (r : Option (Nat × AVal)), EntriesR β es es' → all.drop n = es' → aFind types ki k es n = some r →
      ∃ r', (Instr.findAsking t k' es' n).run P w = .ok r' w ∧ FoundR β all r r' := by
  intro es
  induction es with
  | nil => intro es' all n r he ha h; simp only [EntriesR] at he; subst he; simp [aFind] at h; subst h; exact ⟨none, rfl, rfl⟩
  | cons e es ih =>
    intro es' all n r he ha h
    obtain ⟨e', l', rfl, hr, hs⟩ := he
    have h0 : all[n]? = some e' := by
      have := congrArg (fun l => l[0]?) ha
      simpa using this
    unfold aFind at h
    split at h
    · rename_i hq
      cases h
      have q := aEqual_equalIn T w hi hkk hr.1 hq hk 9998
      have : Op.equal t k' e'.key = Op.equalIn (9998 + 2) t k' e'.key := rfl
      refine ⟨some (n, e'.val), ?_, _, e', rfl, hr.2.1, h0, rfl⟩
      simp only [Instr.findAsking, this, Sem.run_bind, q, Result.andThen_ok, if_true, Sem.run_pure]
    · rename_i hq
      have q := aEqual_equalIn T w hi hkk hr.1 hq hk 9998
      have e1 : Op.equal t k' e'.key = Op.equalIn (9998 + 2) t k' e'.key := rfl
      obtain ⟨r', g1, g2⟩ := ih l' all (n + 1) r hs (by rw [← List.drop_drop, ha]; rfl) h
      refine ⟨r', ?_, g2⟩
      simp only [Instr.findAsking, e1, Sem.run_bind, q, Result.andThen_ok, Bool.false_eq_true, if_false]
      exact g1
    · cases h

theorem findNow_sound {ki : TInfo} (hk : (match ki.desc with | .int _ | .string => true | _ => false) = true) {k : AVal} {k' : Value} (hkk : VR β k k') :
    ∀ (es : List AEntry) (es' all : List MapEntry) (n : Nat) (r : Option (Nat × AVal)), EntriesR β es es' → all.drop n = es' → aFind types ki k es n = some r →
      ∃ r', Instr.findNow ki.desc k' es' n = some r' ∧ FoundR β all r r' := by
  intro es
  induction es with
  | nil => intro es' all n r he ha h; simp only [EntriesR] at he; subst he; simp [aFind] at h; subst h; exact ⟨none, rfl, rfl⟩
  | cons e es ih =>
    intro es' all n r he ha h
    obtain ⟨e', l', rfl, hr, hs⟩ := he
    have h0 : all[n]? = some e' := by
      have := congrArg (fun l => l[0]?) ha
      simpa using this
    have key : ∀ b, aEqual types ki k e.key = some b → Instr.sameNow ki.desc k' e'.key = some b := by
      intro b hb
      have hke := hr.1
      generalize e.key = ek at hb hke
      replace hb := aEqual_conc hkk hke hb
      replace hke := hke.conc
      have hkk' := hkk.conc
      clear hkk
      generalize k.conc = k at *
      generalize ek.conc = ek at *
      have hkk := hkk'
      clear hkk'
      unfold aEqualC at hb
      split at hb
      · split at hb
        · split at hb
          · rename_i hd; simp [hd] at hk
          · cases hb
        · cases hb
      · rename_i hne
        clear hne
        generalize ki.desc = dd at hb hk ⊢
        unfold aEql at hb
        split at hb
        case h_2 =>
          split at hb
          · rename_i hkl
            cases hb
            have e1 := hkk.int_inv
            have e2 := hke.int_inv
            subst hkl
            rw [e1, e2]
            simp [Instr.sameNow]
          · cases hb
        case h_3 =>
          cases hb
          cases hkk with | str p =>
          obtain ⟨q, e2, e3⟩ := hke.str_inv
          rw [e2]
          simp [Instr.sameNow, beq_data, e3]
        case h_19 => cases hb
        all_goals simp at hk
    unfold aFind at h
    split at h
    · rename_i hq
      cases h
      refine ⟨some (n, e'.val), ?_, _, e', rfl, hr.2.1, h0, rfl⟩
      simp only [Instr.findNow, key _ hq]
    · rename_i hq
      obtain ⟨r', g1, g2⟩ := ih l' all (n + 1) r hs (by rw [← List.drop_drop, ha]; rfl) h
      refine ⟨r', ?_, g2⟩
      simp only [Instr.findNow, key _ hq]
      exact g1
    · cases h

include T in
/-- The lookup of a key, as the model does it. -/
theorem findKey_sound {t : TypeId} {ki : TInfo} (hi : types t = some ki) {k : AVal} {k' : Value} (hkk : VR β k k') (hok : keyOk types ki k = true) {es : List AEntry} {es' : List MapEntry} (he : EntriesR β es es')
    {r : Option (Nat × AVal)} (h : aFind types ki k es 0 = some r) : ∃ r', (Instr.findKey t k' es').run P w = .ok r' w ∧ FoundR β es' r r' := by
  have hu := T.run_underlying hi w
  unfold Instr.findKey
  simp only [Sem.run_bind, hu, Result.andThen_ok]
  have hk : (match ki.desc with | .int _ | .string | .struct _ => true | _ => false) = true := by
    have hok' := keyOk_conc hkk hok
    unfold keyOkC at hok'
    split at hok' <;> first | (rename_i hd; rw [hd]) | simp at hok'
  by_cases hs : (match ki.desc with | .int _ | .string => true | _ => false) = true
  · obtain ⟨r', g1, g2⟩ := findNow_sound hs hkk es es' es' 0 r he rfl h
    exact ⟨r', by rw [g1]; rfl, g2⟩
  · cases hd : ki.desc <;> simp [hd] at hk hs
    rename_i fs
    cases es with
    | nil =>
      simp only [EntriesR] at he
      subst he
      simp [aFind] at h
      subst h
      exact ⟨none, rfl, rfl⟩
    | cons e es =>
      obtain ⟨r', g1, g2⟩ := findAsking_sound T w hi (by rw [hd]) hkk (e :: es) es' es' 0 r he rfl h
      obtain ⟨e', l', rfl, hr, hs'⟩ := he
      refine ⟨r', ?_, g2⟩
      simp only [Instr.findNow, Instr.sameNow]
      exact g1

theorem aEql_self {d : TypeDesc} {a : AVal} {b : Bool} (hs : scalarDesc d = true) (h : aEql d a a = some b) : b = true := by
  unfold aEql at h
  split at h <;> simp_all [scalarDesc]

theorem checkScalar {t : TypeId} {i : TInfo} (T : TyOk P types) (hi : types t = some i) (hs : scalarDesc i.desc = true) (e : Bool) (d : Nat) (v : Value) : (Instr.checkKey e (d + 1) t v).run P w = .ok () w := by
  have hu := T.run_underlying hi w
  unfold Instr.checkKey
  simp only [Sem.run_bind, hu, Result.andThen_ok]
  cases hd : i.desc <;> simp [hd, scalarDesc] at hs <;> rfl

include T in
theorem checkFields_sound (e : Bool) (d : Nat) : ∀ (fs : List Field) (n : Nat) (xs : List AVal) (xs' : Array Value) (b : Bool), VRs β xs (xs'.toList.drop n) → aEqlFields types fs n xs xs = some b →
    (do for f in fs do if f.name ≠ "_" then Instr.checkKey e (d + 1) f.type (← part f.type xs' f.offset) : Sem Unit).run P w = .ok () w := by
  intro fs
  induction fs with
  | nil => intro n xs xs' b hx h; rfl
  | cons f fs ih =>
    intro n xs xs' b hx h
    cases xs with
    | nil => simp [aEqlFields] at h
    | cons a l =>
      simp only [aEqlFields] at h
      split at h
      · rename_i hf
        obtain ⟨hof, hnm⟩ := hf
        split at h
        · rename_i i hi
          split at h
          · rename_i hs
            generalize hdx : xs'.toList.drop n = dx at hx
            cases hx with
            | cons _ a' _ l' hax hlx =>
              have e1 : xs'[n]? = some a' := by
                have := congrArg (fun l => l[0]?) hdx
                simpa using this
              have t1 : xs'.toList.drop (n + 1) = l' := by rw [← List.drop_drop, hdx]; rfl
              have ha := isAgg_of_scalar hs
              have hrest : aEqlFields types fs (n + 1) l l = some b := by
                split at h
                · exact h
                · rename_i hq; exact absurd (aEql_self hs hq) (by simp)
                · cases h
              have := ih (n + 1) l xs' b (t1 ▸ hlx) hrest
              simp only [List.forIn_cons, hnm, ne_eq, not_false_eq_true, if_true, Sem.run_bind, hof, T.run_part_one w hi ha e1, Result.andThen_ok, checkScalar w T hi hs, Sem.run_pure]
              simp at this ⊢
              rw [this]; rfl
          · cases h
        · cases h
      · cases h

include T in
/-- A key that may be one is no fault. -/
theorem checkKey_sound {t : TypeId} {ki : TInfo} (hi : types t = some ki) {k : AVal} {k' : Value} (hkk : VR β k k') (hok : keyOk types ki k = true) (e : Bool) : (Instr.checkKey e 10000 t k').run P w = .ok () w := by
  have hu := T.run_underlying hi w
  have e1 : Instr.checkKey e 10000 t k' = Instr.checkKey e (9998 + 2) t k' := rfl
  rw [e1]
  replace hok := keyOk_conc hkk hok
  replace hkk := hkk.conc
  generalize k.conc = k at *
  unfold keyOkC at hok
  cases hq : aEqualC types ki k k with
  | none => rw [hq] at hok; split at hok <;> simp at hok
  | some b =>
    cases hkk with
    | agg xs xs' hxs h1 =>
      simp only [aEqualC] at hq
      split at hq
      · split at hq
        · rename_i fs hd
          rw [hd] at hu
          unfold Instr.checkKey
          simp only [Sem.run_bind, hu, Result.andThen_ok]
          rw [← Array.forIn_toList]
          have := checkFields_sound T w e 9998 fs.toList 0 xs xs' b (by simpa using hxs) hq
          simp only [Sem.run_bind] at this
          exact this
        · cases hq
      · cases hq
    | _ =>
      unfold Instr.checkKey
      simp only [Sem.run_bind, hu, Result.andThen_ok]
      cases hd : ki.desc <;> simp only [hd] at hok <;> first
        | rfl
        | (simp at hok; done)
        | (simp [aEqualC, aEql, hd] at hq; done)

/-! ### Bytes -/

theorem bytesOf_R : ∀ {l : List AVal} {vs : List Value} {s : List UInt8}, VRs β l vs → bytesOf l = some s → ∀ acc : ByteArray,
    Sem.run P (forIn vs acc fun (c : Value) (s : ByteArray) => match c with
      | Value.int IntKind.u8 n => (pure (ForInStep.yield (s.push (UInt8.ofNat n.toNat))) : Sem (ForInStep ByteArray))
      | _ => do
        stuck "bytesToString: byte expected"
        pure (ForInStep.yield s)) w = .ok ⟨acc.data ++ s.toArray⟩ w := by
  intro l
  induction l with
  | nil => intro vs s h hb acc; cases h; simp [bytesOf] at hb; subst hb; simp
  | cons a l ih =>
    intro vs s h hb acc
    cases h with | cons _ v _ vs h hs =>
    unfold bytesOf at hb
    split at hb
    · rename_i heq; cases heq
    · rename_i n l2 heq
      cases heq
      split at hb
      · rename_i r hr
        cases hb
        rw [h.int_inv]
        simp only [List.forIn_cons, pure_bind]
        rw [ih hs hr]
        simp
      · cases hb
    · cases hb

include T in
/-- What an operation reads out of blocks, the model reads; the world is as it was. -/
theorem read_sound {fr : AFrame} {a : Act} (hF : FrR β fr a.tmps) {H : AHeap} (hR : Rel β H w.heap) (o : Oper) {v : AVal} (h : aRead types fr H o.op = some v) :
    ∃ v', (execOp a.eval o).run P w = .ok (.value v') w ∧ VR β v v' := by
  obtain ⟨dst, op, ty, pos, after, guard⟩ := o
  simp only at h
  unfold aRead at h
  split at h
  -- load
  · rename_i t x
    split at h
    · rename_i i b off hi hx
      split at h
      · rename_i vs ro ty hb
        obtain ⟨v', ad, e1, q1, q2⟩ := load_sound T w hR hi (hF.eval hx) hb h
        refine ⟨v', ?_, q2⟩
        simp [execOp, Instr.loadAt, Instr.sureAddr, e1, q1]
      · cases h
    · cases h
  -- lookup
  · rename_i t m k ok
    split at h
    · rename_i i mv kv hi hm hkv
      split at h
      · rename_i kt et hd
        split at h
        · rename_i ki ei hki hei
          split at h
          · rename_i hok
            have u1 := T.run_underlying hi w
            rw [hd] at u1
            have rk := hF.eval hkv
            have rm := hF.eval hm
            obtain ⟨z, hz1, hz2, _⟩ := T.run_zero hei w
            have hzr : VR β ei.zero z := ofConst_VR hz2
            have hfin : ∀ (esA : Array MapEntry) (r : Option AVal) (r' : Option (Nat × Value)),
                ((a.eval m = .map none ∧ esA = #[]) ∨ (∃ c clock, a.eval m = .map (some c) ∧ (getObj c).run P w = .ok (.map esA clock) w)) → (Instr.findKey kt (a.eval k) esA.toList).run P w = .ok r' w →
                (match r with | none => r' = none | some v => ∃ j v', r' = some (j, v') ∧ VR β v v') →
                (match some r with | some (some v) => some (if ok then .tuple [v, .bool true] else v) | some none => some (if ok then .tuple [ei.zero, .bool false] else ei.zero) | none => none) = some v →
                ∃ v', (execOp a.eval { dst := dst, op := Op.lookup t m k ok, type := ty, pos := pos, after := after, guard := guard }).run P w = .ok (.value v') w ∧ VR β v v' := by
              intro esA r r' g0 g1 g2 hv
              cases r with
              | none =>
                simp only at g2 hv
                subst g2
                cases hv
                refine ⟨if ok then .tuple #[z, .bool false] else z, ?_, ?_⟩
                · rcases g0 with ⟨e1, rfl⟩ | ⟨c, clock, e1, hgo⟩
                  · simp only [execOp, Instr.lookup, Sem.run_bind, u1, Result.andThen_ok, e1, Sem.run_pure, checkKey_sound T w hki rk hok, g1, hz1]
                  · simp only [execOp, Instr.lookup, Sem.run_bind, u1, Result.andThen_ok, e1, hgo, Sem.run_pure, checkKey_sound T w hki rk hok, g1, hz1]
                · cases ok
                  · exact hzr
                  · exact .tuple _ _ (.cons _ _ _ _ hzr (.cons _ _ _ _ (.bool _) .nil))
              | some u =>
                obtain ⟨j, v', rfl, hvr⟩ := g2
                cases hv
                refine ⟨if ok then .tuple #[v', .bool true] else v', ?_, ?_⟩
                · rcases g0 with ⟨e1, rfl⟩ | ⟨c, clock, e1, hgo⟩
                  · simp only [execOp, Instr.lookup, Sem.run_bind, u1, Result.andThen_ok, e1, Sem.run_pure, checkKey_sound T w hki rk hok, g1]
                  · simp only [execOp, Instr.lookup, Sem.run_bind, u1, Result.andThen_ok, e1, hgo, Sem.run_pure, checkKey_sound T w hki rk hok, g1]
                · cases ok
                  · exact hvr
                  · exact .tuple _ _ (.cons _ _ _ _ hvr (.cons _ _ _ _ (.bool _) .nil))
            cases hq : aFound types ki kv H mv with
            | none => simp [hq] at h
            | some r =>
              rw [hq] at h
              unfold aFound at hq
              split at hq
              · cases hq
                have e1 : a.eval m = .map none := by cases e : a.eval m <;> rw [e] at rm <;> cases rm; rfl
                obtain ⟨r', g1, g2⟩ := findKey_sound T w hki rk hok (es := []) (es' := []) rfl (r := none) rfl
                simp only [FoundR] at g2
                exact hfin #[] none r' (.inl ⟨e1, rfl⟩) g1 g2 h
              · rename_i b
                split at hq
                · rename_i es clock hb
                  obtain ⟨c, base, n, e1, hβ⟩ := rm.map_inv
                  obtain ⟨es', hh, he⟩ := hR.obj b _ _ hb hβ
                  simp only at hh
                  have hgo : (getObj c).run P w = .ok (.map es' clock) w := by simp [getObj, Sem.run, hh]
                  have g0 : (a.eval m = .map none ∧ es' = #[]) ∨ (∃ c clock, a.eval m = .map (some c) ∧ (getObj c).run P w = .ok (.map es' clock) w) := .inr ⟨c, clock, e1, hgo⟩
                  split at hq
                  · rename_i j u hf
                    cases hq
                    obtain ⟨r', g1, g2⟩ := findKey_sound T w hki rk hok he hf
                    obtain ⟨v', e', rfl, hv, _, _⟩ := g2
                    exact hfin es' (some u) _ g0 g1 ⟨j, v', rfl, hv⟩ h
                  · rename_i hf
                    cases hq
                    obtain ⟨r', g1, g2⟩ := findKey_sound T w hki rk hok he hf
                    exact hfin es' none r' g0 g1 g2 h
                  · cases hq
                · cases hq
              · cases hq
          · cases h
        · cases h
      · cases h
    · cases h
  -- bytes to a string
  · rename_i src dst' x
    split at h
    · rename_i si di xv hs hd hx
      split at h
      · rename_i e ed1 ed2
        split at h
        · rename_i ei hei
          have u1 := T.run_underlying hs w
          have u2 := T.run_underlying hd w
          have u3 := T.run_underlying hei w
          rw [ed1] at u1; rw [ed2] at u2
          have rx := hF.eval hx
          split at h
          · rename_i ed3
            cases h
            rw [ed3] at u3
            have e1 : a.eval x = .slice none 0 0 := by cases e : a.eval x <;> rw [e] at rx <;> cases rx; rfl
            refine ⟨.string .empty, ?_, VR.str_of _ rfl⟩
            simp [execOp, convert, u1, u2, e1, u3, Conv.bytesToString]
          · rename_i b off len cap sz ex ed3
            rw [ed3] at u3
            split at h
            · rename_i vs ro ty hb
              split at h
              · rename_i l hl
                cases hby : bytesOf l with
                | none => simp [hby] at h
                | some s =>
                  simp [hby] at h
                  subst h
                  obtain ⟨c, base, n, o, cap', e1, hβ, ho, hcap, hex, hn, hle⟩ := rx.slice_inv
                  obtain ⟨cs, T', fz, hh, hsz, hlen, hc, _⟩ := hR.obj b _ _ hb hβ
                  simp only at hh hsz hlen hc
                  rcases hc.read hl with ⟨q1, q2, q3⟩ | ⟨q1, q2⟩
                  · by_cases h0 : cap' = 0
                    · have hl0 : len = 0 := by omega
                      subst hl0
                      have : l = [] := by
                        have := q1.length; simp at this; exact this
                      subst this
                      simp [bytesOf] at hby
                      subst hby
                      refine ⟨.string ⟨#[]⟩, ?_, VR.str_of _ rfl⟩
                      simp only [execOp, convert, Sem.run_bind, u1, u2, u3, Result.andThen_ok, e1, Conv.bytesToString]
                      rfl
                    · have ho' : o = base + off := by
                        rcases ho with ho | ho
                        · exact ho
                        · exact absurd ho h0
                      subst ho'
                      refine ⟨.string ⟨s.toArray⟩, ?_, VR.str_of _ (by simp)⟩
                      simp only [execOp, convert, Sem.run_bind, u1, u2, u3, Result.andThen_ok, e1, Conv.bytesToString]
                      rw [run_loadCells_of hh q3]
                      simp only [Result.andThen_ok, Sem.run_bind]
                      have := bytesOf_R (P := P) w q1 hby .empty
                      rw [List.forIn_toArray]
                      refine (congrArg (fun (r : Result ByteArray) => (r.andThen fun a w' => Sem.run P (pure (Value.string a)) w').andThen fun a w' => Sem.run P (pure (Next.value a)) w') this).trans ?_
                      simp only [Result.andThen_ok, Sem.run_pure]
                      have e0 : (⟨ByteArray.empty.data ++ s.toArray⟩ : ByteArray) = ⟨s.toArray⟩ := by
                        congr 1
                        show (#[] : Array UInt8) ++ s.toArray = s.toArray
                        simp
                      rw [e0]
                  · subst q1; subst q2
                    simp [bytesOf] at hby
                    subst hby
                    refine ⟨.string ⟨#[]⟩, ?_, VR.str_of _ rfl⟩
                    simp only [execOp, convert, Sem.run_bind, u1, u2, u3, Result.andThen_ok, e1, Conv.bytesToString]
                    rfl
              · cases h
            · cases h
          · cases h
        · cases h
      · cases h
    · cases h
  -- len of a map
  · rename_i args argTypes
    split at h
    · rename_i x t hargs ht
      have ea : args = #[x] := by rw [← Array.toArray_toList (xs := args), hargs]
      subst ea
      split at h
      · rename_i i b hi hx
        split at h
        · rename_i kt et es clock hd hb
          cases h
          have u1 := T.run_underlying hi w
          rw [hd] at u1
          obtain ⟨c, base, n, e1, hβ⟩ := (hF.eval hx).map_inv
          obtain ⟨es', hh, he⟩ := hR.obj b _ _ hb hβ
          simp only at hh
          have hgo : (getObj c).run P w = .ok (.map es' clock) w := by simp [getObj, Sem.run, hh]
          refine ⟨.int .i64 es.length, ?_, .int _ _⟩
          have hl := he.length
          simp [execOp, resolve, invoke, builtin, Builtin.len_, ht, e1, u1, goInt, hgo, hl]
        · cases h
      · cases h
    · cases h
  · cases h

end Go.Sx

/-
  SX, part 8: what making and changing blocks does to an embedding; the operations that make a block.
-/
namespace Go.Sx

variable {P : Program} {types : TypeId → Option TInfo} (T : TyOk P types) {β : Emb} (w : World)

/-! ### A block more -/

def Emb.upd (β : Emb) (b : Nat) (x : Nat × Nat × Nat) : Emb := fun c => if c = b then some x else β c

theorem Emb.upd_same (β : Emb) (b : Nat) (x : Nat × Nat × Nat) : β.upd b x b = some x := by simp [Emb.upd]

theorem Emb.le_upd {β : Emb} {b : Nat} (h : β b = none) (x : Nat × Nat × Nat) : β.le (β.upd b x) := fun c y hc => by
  unfold Emb.upd
  split
  · rename_i e; subst e; rw [h] at hc; cases hc
  · exact hc

/-- A name gets a place that no block of the heap has. -/
theorem Rel.add {H : AHeap} {h : Array Obj} (r : Rel β H h) {b : Nat} (hb : β b = none) (hn : b < H.next) {x : Nat × Nat × Nat} (hx : x.1 < h.size) {o : AObj} (ho : ObjR (β.upd b x) o x h)
    (hf : ∀ c o' y, H.get c = some o' → β c = some y → y.1 ≠ x.1) : Rel (β.upd b x) (H.set b o) h := by
  have hle := Emb.le_upd hb x
  refine ⟨?_, ?_, ?_⟩
  · intro c y hc
    unfold Emb.upd at hc
    split at hc
    · rename_i e; cases hc; subst e; exact ⟨hn, hx⟩
    · exact r.dom c y hc
  · intro c o' y hg hc
    rw [AHeap.get_set] at hg
    unfold Emb.upd at hc
    split at hg
    · rename_i e; cases hg; rw [if_pos e] at hc; cases hc; exact ho
    · rename_i e; rw [if_neg e] at hc
      exact (r.obj c o' y hg hc).mono hle rfl
  · intro c c' o1 o2 y y' hg hg' hc hc' hy
    rw [AHeap.get_set] at hg hg'
    unfold Emb.upd at hc hc'
    split at hg
    · rename_i e
      rw [if_pos e] at hc; cases hc
      split at hg'
      · rename_i e'; omega
      · rename_i e'
        rw [if_neg e'] at hc'
        exact absurd hy.symm (hf c' o2 y' hg' hc')
    · rename_i e
      rw [if_neg e] at hc
      split at hg'
      · rename_i e'
        rw [if_pos e'] at hc'; cases hc'
        exact absurd hy (hf c o1 y hg hc)
      · rename_i e'
        rw [if_neg e'] at hc'
        exact r.inj c c' o1 o2 y y' hg hg' hc hc' hy

/-- Blocks of the model that are as they were: the embedding stays. -/
theorem Rel.same {H : AHeap} {h h' : Array Obj} (r : Rel β H h) (hs : h.size ≤ h'.size) (hh : ∀ b o x, H.get b = some o → β b = some x → h'[x.1]? = h[x.1]?) : Rel β H h' :=
  ⟨fun b x e => let ⟨p, q⟩ := r.dom b x e; ⟨p, Nat.lt_of_lt_of_le q hs⟩, fun b o x g e => (r.obj b o x g e).mono β.le_refl (hh b o x g e), r.inj⟩

theorem push_old {h : Array Obj} {o : Obj} {c : Nat} (hc : c < h.size) : (h.push o)[c]? = h[c]? := by
  rw [Array.getElem?_push]
  rw [if_neg (by omega)]

theorem push_new {h : Array Obj} {o : Obj} : (h.push o)[h.size]? = some o := by simp

theorem Rel.push {H : AHeap} {h : Array Obj} (r : Rel β H h) (o : Obj) : Rel β H (h.push o) :=
  r.same (by simp) fun b o' x g e => push_old (r.dom b x e).2

/-! ### A block changed -/

theorem set_same {h : Array Obj} {c : Nat} {o : Obj} (hc : c < h.size) : (h.setIfInBounds c o)[c]? = some o := by
  rw [Array.getElem?_setIfInBounds]; simp [hc]

theorem set_other {h : Array Obj} {c d : Nat} {o : Obj} (hc : c ≠ d) : (h.setIfInBounds c o)[d]? = h[d]? := by
  rw [Array.getElem?_setIfInBounds]; simp [hc]

theorem Rel.change {H : AHeap} {h : Array Obj} (r : Rel β H h) {b : Nat} {x : Nat × Nat × Nat} (hb : β b = some x) {o0 : AObj} (hg : H.get b = some o0) {o : AObj} {oc : Obj} (ho : ObjR β o x (h.setIfInBounds x.1 oc)) :
    Rel β (H.set b o) (h.setIfInBounds x.1 oc) := by
  refine ⟨fun c y e => by simpa using r.dom c y e, ?_, ?_⟩
  · intro c o' y g e
    rw [AHeap.get_set] at g
    split at g
    · rename_i hc; cases g; subst hc; rw [hb] at e; cases e; exact ho
    · rename_i hc
      refine (r.obj c o' y g e).mono β.le_refl (set_other fun hh => hc ?_)
      exact r.inj c b o' o0 y x g hg e hb hh.symm
  · intro c c' o1 o2 y y' g g' e e' hy
    have k : ∀ d o, (H.set b o).get d = some o → ∃ o', H.get d = some o' := by
      intro d o g
      rw [AHeap.get_set] at g
      split at g
      · rename_i hd; subst hd; exact ⟨o0, hg⟩
      · exact ⟨_, g⟩
    have l : ∀ (d : Nat) (o1 : AObj), (H.set b o).get d = some o1 → ∃ o', H.get d = some o' := by
      intro d o1 g
      rw [AHeap.get_set] at g
      split at g
      · rename_i hd; subst hd; exact ⟨o0, hg⟩
      · exact ⟨_, g⟩
    obtain ⟨p, hp⟩ := l c o1 g
    obtain ⟨q, hq⟩ := l c' o2 g'
    exact r.inj c c' p q y y' hp hq e e' hy

theorem Ext.change {nx : Nat} {H : AHeap} {w : World} {b : Nat} {x : Nat × Nat × Nat} (hb : β b = some x) {o0 : AObj} (hg : H.get b = some o0) (o : AObj) {w' : World} {oc : Obj} (hw : w'.heap = w.heap.setIfInBounds x.1 oc)
    (ht : w'.tape = w.tape) (hos : w'.os = w.os) (hout : w'.output = w.output) : Ext nx β β H (H.set b o) w w' := by
  refine ⟨β.le_refl, fun _ _ h => .inl h, ?_, by rw [hw]; simp, ?_, ht, hos, hout, Nat.le_refl _⟩
  · intro c o' g e
    rw [AHeap.get_set] at g
    split at g
    · rename_i hc; subst hc; exact ⟨o0, hg⟩
    · exact ⟨o', g⟩
  · intro c hc hne
    rw [hw]
    exact set_other (hne b o0 x hg hb)

theorem setCell_heap {w : World} {c : Nat} {cs : Array Value} {e : TypeId} {fz : Nat × Nat} (h : w.heap[c]? = some (.cells cs e fz)) (o : Nat) (v : Value) :
    w.setCell ⟨c, o, none⟩ v = { w with heap := w.heap.setIfInBounds c (.cells (cs.setIfInBounds o v) e fz) } := by
  have hc : c < w.heap.size := (Array.getElem?_eq_some_iff.1 h).1
  have hv : w.heap[c] = .cells cs e fz := (Array.getElem?_eq_some_iff.1 h).2
  simp only [World.setCell]
  congr 1
  apply Array.ext_getElem?
  intro i
  rw [Array.getElem?_modify, Array.getElem?_setIfInBounds]
  by_cases e1 : c = i
  · subst e1; simp [hc, hv]
  · simp [e1]

/-- Cells stored over others. -/
theorem run_storeCells_of (c o : Nat) (e : TypeId) (fz : Nat × Nat) : ∀ (vs : List Value) (i : Nat) (cs : Array Value) (w : World), w.heap[c]? = some (.cells cs e fz) → o + i + vs.length ≤ cs.size →
    (∀ v ∈ vs, v.oneCell' = true) → (∀ j, j < cs.size → ¬ (fz.1 ≤ j ∧ j < fz.2)) →
    ∃ cs', (storeCells ⟨c, o, none⟩ vs i).run P w = .ok () { w with heap := w.heap.setIfInBounds c (.cells cs' e fz) } ∧ cs'.toList = cs.toList.take (o + i) ++ (vs ++ cs.toList.drop (o + i + vs.length)) := by
  intro vs
  induction vs with
  | nil =>
    intro i cs w h hn h1 hf
    refine ⟨cs, ?_, by simp⟩
    have : w.heap.setIfInBounds c (.cells cs e fz) = w.heap := by
      apply Array.ext_getElem?
      intro k
      rw [Array.getElem?_setIfInBounds]
      have hc : c < w.heap.size := (Array.getElem?_eq_some_iff.1 h).1
      by_cases e1 : c = k
      · subst e1; simp [hc]; exact (Array.getElem?_eq_some_iff.1 h).2.symm
      · simp [e1]
    rw [this]
    rfl
  | cons v vs ih =>
    intro i cs w h hn h1 hf
    simp only [List.length_cons] at hn
    have ha : Addr.add (⟨c, o, none⟩ : Addr) i = ⟨c, o + i, none⟩ := by
      unfold Addr.add; split
      · rename_i h0; simp [h0]
      · rfl
    have hcell : w.cell? ⟨c, o + i, none⟩ = some cs[o + i] := by rw [cell_of h]; exact Array.getElem?_eq_getElem (by omega)
    have hfz : w.frozen? ⟨c, o + i, none⟩ = false := by
      have := hf (o + i) (by omega)
      simp only [World.frozen?, h]
      simp only [Bool.and_eq_false_iff, decide_eq_false_iff_not]
      omega
    have hs : (store ⟨c, o + i, none⟩ v).run P w = .ok () (w.setCell ⟨c, o + i, none⟩ v) := by
      rw [run_store P w _ v _ (h1 v (by simp)), hcell]; simp [hfz]
    rw [setCell_heap h] at hs
    have hc : c < w.heap.size := (Array.getElem?_eq_some_iff.1 h).1
    obtain ⟨cs', q1, q2⟩ := ih (i + 1) (cs.setIfInBounds (o + i) v) { w with heap := w.heap.setIfInBounds c (.cells (cs.setIfInBounds (o + i) v) e fz) } (set_same hc) (by simp; omega) (fun u hu => h1 u (by simp [hu])) (by simpa using hf)
    refine ⟨cs', ?_, ?_⟩
    · simp only [storeCells, ha, Sem.run_bind, hs, Result.andThen_ok, q1]
      congr 2
      apply Array.ext_getElem?
      intro k
      simp only [Array.getElem?_setIfInBounds]
      by_cases e1 : c = k <;> simp [e1]
    · rw [q2]
      simp only [Array.toList_setIfInBounds, List.length_cons]
      have e1 : (cs.toList.set (o + i) v).take (o + (i + 1)) = cs.toList.take (o + i) ++ [v] := by
        rw [show o + (i + 1) = (o + i) + 1 from by omega, List.take_succ_eq_append_getElem (by simp; omega)]
        simp only [List.getElem_set_self]
        rw [List.take_set, List.set_eq_of_length_le (by simp; omega)]
      have e2 : (cs.toList.set (o + i) v).drop (o + (i + 1) + vs.length) = cs.toList.drop (o + i + (vs.length + 1)) := by
        rw [List.drop_set_of_lt (by omega)]
        congr 1; omega
      rw [e1, e2]
      simp

theorem CellsR.write {vs vs' new : List AVal} {cs cs' : Array Value} {news : List Value} {base off : Nat} (h : CellsR β vs cs base) (hn : VRs β new news) (h1 : new.all AVal.one = true) (hw : writeCells vs off new = some vs')
    (hl : base + vs.length ≤ cs.size) (hc : cs'.toList = cs.toList.take (base + off) ++ (news ++ cs.toList.drop (base + off + news.length))) : CellsR β vs' cs' base := by
  unfold writeCells at hw
  split at hw
  · rename_i hle
    cases hw
    have e1 := hn.length
    intro i a ha
    have hget : ∀ (j : Nat), cs'[j]? = (cs.toList.take (base + off) ++ (news ++ cs.toList.drop (base + off + news.length)))[j]? := by
      intro j; rw [← hc]; simp
    rw [hget]
    by_cases c1 : i < off
    · rw [List.getElem?_append_left (by simp; omega)] at ha
      rw [List.getElem?_take, if_pos c1] at ha
      obtain ⟨g1, v, g2, g3⟩ := h i a ha
      refine ⟨g1, v, ?_, g3⟩
      rw [List.getElem?_append_left (by simp; omega), List.getElem?_take, if_pos (by omega)]
      simpa using g2
    · rw [List.getElem?_append_right (by simp; omega)] at ha
      have hto : (vs.take off).length = off := by simp; omega
      rw [hto] at ha
      rw [List.getElem?_append_right (by simp; omega)]
      have htc : (cs.toList.take (base + off)).length = base + off := by simp; omega
      rw [htc]
      by_cases c2 : i - off < new.length
      · rw [List.getElem?_append_left c2] at ha
        obtain ⟨v, g2, g3⟩ := hn.get ha
        refine ⟨List.all_eq_true.1 h1 a (List.mem_of_getElem? ha), v, ?_, g3⟩
        rw [List.getElem?_append_left (by omega)]
        rw [← g2]; congr 1; omega
      · rw [List.getElem?_append_right (by omega), List.getElem?_drop] at ha
        obtain ⟨g1, v, g2, g3⟩ := h _ a ha
        refine ⟨g1, v, ?_, g3⟩
        rw [List.getElem?_append_right (by omega), List.getElem?_drop]
        rw [show base + off + news.length + (base + i - (base + off) - news.length) = base + (off + new.length + (i - off - new.length)) from by omega]
        simpa using g2
  · cases hw

theorem VR.one {a : AVal} {v : Value} (h : VR β a v) (h1 : a.one = true) : v.oneCell' = true := by
  cases h <;> first | rfl | (simp [AVal.one] at h1; done) | (rename_i s hok hv; rcases Scal.cases_VR hv with ⟨b, rfl⟩ | ⟨k, n, rfl⟩ <;> rfl)

theorem VRs.ones {as : List AVal} {vs : List Value} (h : VRs β as vs) (h1 : as.all AVal.one = true) : ∀ v ∈ vs, v.oneCell' = true := by
  intro v hv
  obtain ⟨i, hi⟩ := List.getElem?_of_mem hv
  have hl := h.length
  have hlt : i < vs.length := (List.getElem?_eq_some_iff.1 hi).1
  have ha : as[i]? = some (as[i]'(by omega)) := List.getElem?_eq_getElem (by omega)
  obtain ⟨u, hu, hr⟩ := h.get ha
  rw [hi] at hu; cases hu
  exact hr.one (List.all_eq_true.1 h1 _ (List.mem_of_getElem? ha))

/-- A row of new cells. -/
theorem cellsR_new {as : List AVal} {cs : Array Value} (h : VRs β as cs.toList) (h1 : as.all AVal.one = true) : CellsR β as cs 0 := by
  intro i a ha
  obtain ⟨v, hv, hr⟩ := h.get ha
  exact ⟨List.all_eq_true.1 h1 _ (List.mem_of_getElem? ha), v, by simpa using hv, hr⟩

theorem objR_new {as : List AVal} {cs : Array Value} (h : VRs β as cs.toList) (h1 : as.all AVal.one = true) {hp : Array Obj} {c : Nat} {e : TypeId} (hc : hp[c]? = some (.cells cs e (0, 0))) (ro : Bool) (ty : Option (TypeId × Bool)) (hty : ∀ t ex, ty = some (t, ex) → e = t) : ObjR β (.cells as ro ty) (c, 0, cs.size) hp :=
  ⟨cs, e, (0, 0), hc, rfl, by have := h.length; simp at this; simp; omega, cellsR_new h h1, fun _ i _ => by simp, fun t ex ht => ⟨hty t ex ht, rfl, fun _ => by have := h.length; simp at this; simp; omega⟩⟩

end Go.Sx

/-
  SX, part 9: the operations that only make a block.
-/
namespace Go.Sx

variable {P : Program} {types : TypeId → Option TInfo} (T : TyOk P types) {β : Emb} (w : World)

theorem zeroRow_list (zero : Array Value) (k : Nat) (hk : zero.size = k) : ∀ m, (List.range (m * k)).map (fun i => zero[i % zero.size]!) = (List.replicate m zero.toList).flatten := by
  intro m
  induction m with
  | zero => simp
  | succ m ih =>
    rw [Nat.succ_mul, List.range_add, List.map_append, ih, List.replicate_succ', List.flatten_append]
    congr 1
    simp only [List.flatten_cons, List.flatten_nil, List.append_nil, List.map_map]
    apply List.ext_getElem?
    intro i
    rw [List.getElem?_map]
    by_cases hi : i < k
    · rw [List.getElem?_range hi]
      have e : (m * k + i) % zero.size = i := by rw [hk, Nat.mul_comm, Nat.mul_add_mod, Nat.mod_eq_of_lt hi]
      have e2 : i % k = i := Nat.mod_eq_of_lt hi
      simp [e, hk, hi, e2, getElem!_pos, show i < zero.size by omega]
    · rw [List.getElem?_eq_none (by simp; omega), List.getElem?_eq_none (by simp; omega)]
      rfl

theorem zeroRow (zero : Array Value) (k : Nat) (hk : zero.size = k) (m : Nat) : ((Array.range (m * k)).map (fun i => zero[i % zero.size]!)).toList = (List.replicate m zero.toList).flatten := by
  rw [Array.toList_map, Array.toList_range]
  exact zeroRow_list zero k hk m

theorem zeros_len (z : List AVal) : ∀ n, (zeros z n).length = n * z.length
  | 0 => by simp [zeros]
  | n + 1 => by simp [zeros, zeros_len z n, Nat.succ_mul, Nat.add_comm]

theorem zeros_one {z : List AVal} (h : z.all AVal.one = true) : ∀ n, (zeros z n).all AVal.one = true
  | 0 => rfl
  | n + 1 => by simp only [zeros, List.all_append, h, zeros_one h n, Bool.and_self]

theorem Addr.zero_off (c : Nat) : (⟨c, 0, none⟩ : Addr) = ⟨c, 0 + 0, none⟩ := rfl

theorem wrap_i64 {x : Int} (h0 : 0 ≤ x) (h1 : x ≤ 2 ^ 40) : IntKind.i64.wrap x = x := by
  have e3 : x % (2 ^ 64 : Int) = x := Int.emod_eq_of_lt h0 (by omega)
  show (let m := x % (2 ^ 64 : Int); if (true && decide (m ≥ (2 ^ 63 : Int))) = true then m - (2 ^ 64 : Int) else m) = x
  simp only [e3]
  rw [if_neg (by simp; omega)]

theorem writeCells_len {vs new r : List AVal} {off : Nat} (h : writeCells vs off new = some r) : r.length = vs.length := by
  unfold writeCells at h
  split at h
  · cases h; simp; omega
  · cases h

theorem aFill_len {place : Nat → Option (Nat × Nat)} : ∀ {parts : List (Nat × AVal)} {cells res : List AVal}, aFill place cells parts = some res → res.length = cells.length
  | [], cells, res, h => by cases h; rfl
  | (i, v) :: rest, cells, res, h => by
    unfold aFill at h
    split at h
    · cases h
    · split at h
      · split at h
        · rename_i hw
          rw [aFill_len h, writeCells_len hw]
        · cases h
      · cases h

set_option maxHeartbeats 1000000 in
include T in
/-- What an operation that makes a block makes, the model makes. -/
theorem alloc_sound {fr : AFrame} {a : Act} (hF : FrR β fr a.tmps) (o : Oper) {obj : AObj} {ans : Nat → AVal} (h : aAlloc types fr o.op = some (obj, ans)) :
    ∃ oc n v', (execOp a.eval o).run P w = .ok (.value v') (w.alloc oc) ∧ (∀ β' name, β.le β' → β' name = some (w.heap.size, 0, n) → VR β' (ans name) v') ∧
      (∀ β' hp, β.le β' → hp[w.heap.size]? = some oc → ObjR β' obj (w.heap.size, 0, n) hp) := by
  obtain ⟨dst, op, ty, pos, after, guard⟩ := o
  simp only at h
  unfold aAlloc at h
  split at h
  -- alloc
  · rename_i t
    split at h
    · rename_i i hi
      split at h
      · rename_i h1
        cases h
        obtain ⟨z, hz1, hz2, hz3⟩ := T.run_zero hi w
        have hzr : VRs β i.zero.cells z.cells.toList := (ofConst_VR hz2).cells
        refine ⟨.cells z.cells t (0, 0), z.cells.size, .pointer (some ⟨w.heap.size, 0, none⟩), ?_, fun β' name hle hn => .ptr name 0 _ 0 _ hn, fun β' hp hle hh => objR_new (hzr.mono hle) h1 hh false _ (fun _ _ e => by cases e; rfl)⟩
        simp only [execOp, Instr.alloc, Sem.run_bind, hz1, Result.andThen_ok, newVar, newRow, Sem.run_pure]
        rfl
      · cases h
    · cases h
  -- box
  · rename_i t x
    split at h
    · rename_i v hx
      split at h
      · rename_i h1
        cases h
        have r := hF.eval hx
        refine ⟨.cells (a.eval x).cells t (0, 0), (a.eval x).cells.size, .pointer (some ⟨w.heap.size, 0, none⟩), ?_, fun β' name hle hn => .ptr name 0 _ 0 _ hn, fun β' hp hle hh => objR_new (r.cells.mono hle) h1 hh false _ (fun _ _ e => by cases e; rfl)⟩
        simp only [execOp, Instr.box, Sem.run_bind, newVar, newRow, Sem.run_pure]
        rfl
      · cases h
    · cases h
  -- buildSlice
  · rename_i t len ps
    split at h
    · rename_i i parts hi hps
      split at h
      · rename_i e hd
        split at h
        · rename_i ei hei
          split at h
          · rename_i hlim
            split at h
            · rename_i cells hf
              split at h
              · rename_i h1
                cases h
                obtain ⟨z, hz1, hz2, hz3⟩ := T.run_zero hei w
                have u1 := T.run_underlying hi w
                rw [hd] at u1
                have hzr : VRs β ei.zero.cells z.cells.toList := (ofConst_VR hz2).cells
                have hzl := hzr.length
                have hps' := getParts_R hF hps
                have hz0 : ∃ zz : Array Value, (len * ei.size = 0 ∧ zz = #[] ∨ len * ei.size ≠ 0 ∧ zz = z.cells) ∧ VRs β (zeros ei.zero.cells len) ((Array.range (len * ei.size)).map (zz[· % zz.size]!)).toList := by
                  by_cases h0 : len * ei.size = 0
                  · refine ⟨#[], .inl ⟨h0, rfl⟩, ?_⟩
                    have : zeros ei.zero.cells len = [] := List.eq_nil_of_length_eq_zero (by rw [zeros_len]; simp at hzl; rw [hzl, hz3]; exact h0)
                    rw [this, h0]
                    simpa using VRs.nil
                  · refine ⟨z.cells, .inr ⟨h0, rfl⟩, ?_⟩
                    rw [zeroRow z.cells ei.size hz3 len]
                    exact zeros_cells hzr len
                obtain ⟨zz, q1, q2⟩ := hz0
                obtain ⟨res', r1, r2⟩ := fill_sound (place' := fun i => some (i * ei.size, ei.size)) (fun i x hx => hx) hps' q2 hf
                refine ⟨.cells res' e (0, 0), res'.size, .slice (some ⟨w.heap.size, 0, none⟩) len len, ?_, fun β' name hle hn => ?_, fun β' hp hle hh => objR_new (r2.mono hle) h1 hh false _ (fun _ _ e => by cases e)⟩
                · have e0 : (ps.map fun (p : Nat × Operand) => (p.1, a.eval p.2)) = (ps.toList.map fun p => (p.1, a.eval p.2)).toArray := by rw [← Array.toList_map, Array.toArray_toList]
                  simp only [execOp]
                  rw [show (ps.map fun (x : Nat × Operand) => match x with | (i, x) => (i, a.eval x)) = (ps.map fun (p : Nat × Operand) => (p.1, a.eval p.2)) from rfl, e0]
                  simp only [Instr.buildSlice, Sem.run_bind, u1, Result.andThen_ok, T.run_sizeOf hei, Sem.run_ite]
                  rw [if_neg (by omega)]
                  simp only [Sem.run_bind, Sem.run_pure, Result.andThen_ok]
                  rcases q1 with ⟨h0, rfl⟩ | ⟨h0, rfl⟩
                  · simp only [h0] at r1 ⊢
                    simp only [if_true, r1]
                    simp only [newRow, Sem.run_bind, Sem.run_pure]
                    rfl
                  · simp only [h0, if_false, hz1, Result.andThen_ok, r1]
                    simp only [newRow, Sem.run_bind, Sem.run_pure]
                    rfl
                · have hl : res'.size = len * ei.size := by
                    have e1 := r2.length
                    have e2 := aFill_len hf
                    rw [zeros_len] at e2
                    simp at e1 hzl
                    rw [← e1, e2, hzl, hz3]
                  exact .slice name 0 len len ei.size true _ 0 res'.size 0 len hn (.inl rfl) (Nat.le_refl _) (fun _ => rfl) (by omega) (Nat.le_refl _)
              · cases h
            · cases h
          · cases h
        · cases h
      · cases h
    · cases h
  -- makeMap
  · rename_i t
    cases h
    refine ⟨.map #[] 0, 0, .map (some w.heap.size), rfl, fun β' name hle hn => .map name _ 0 _ hn, fun β' hp hle hh => ⟨#[], hh, rfl⟩⟩
  -- makeSlice
  · rename_i t l c
    split at h
    · rename_i i n m hi hl hc
      split at h
      · rename_i e hd
        split at h
        · rename_i ei hei
          split at h
          · rename_i hlim
            obtain ⟨g1, g2, g3, g4, h1⟩ := hlim
            simp only [Option.some.injEq, Prod.mk.injEq] at h
            obtain ⟨rfl, rfl⟩ := h
            obtain ⟨z, hz1, hz2, hz3⟩ := T.run_zero hei w
            obtain ⟨ti, ht1, ht2, ht3⟩ := T.run_typeInfo hei w
            have u1 := T.run_underlying hi w
            rw [hd] at u1
            have hzr : VRs β ei.zero.cells z.cells.toList := (ofConst_VR hz2).cells
            have hzl := hzr.length
            have e1 : a.eval l = .int .i64 n := (hF.eval hl).int_inv
            have e2 : a.eval c = .int .i64 m := (hF.eval hc).int_inv
            have hwr : ∀ x : Int, 0 ≤ x → x ≤ 2 ^ 40 → IntKind.i64.wrap x = x := by
              intro x h0 h1
              exact wrap_i64 h0 h1
            have hm : 0 ≤ m := by omega
            have w1 := hwr n g1 (by omega)
            have w2 := hwr m hm g4
            have hz0 : ∃ zz : Array Value, (m.toNat * ei.size = 0 ∧ zz = #[] ∨ m.toNat * ei.size ≠ 0 ∧ zz = z.cells) ∧ VRs β (zeros ei.zero.cells m.toNat) ((Array.range (m.toNat * ei.size)).map (zz[· % zz.size]!)).toList := by
              by_cases h0 : m.toNat * ei.size = 0
              · refine ⟨#[], .inl ⟨h0, rfl⟩, ?_⟩
                have : zeros ei.zero.cells m.toNat = [] := List.eq_nil_of_length_eq_zero (by rw [zeros_len]; simp at hzl; rw [hzl, hz3]; exact h0)
                rw [this, h0]
                simpa using VRs.nil
              · refine ⟨z.cells, .inr ⟨h0, rfl⟩, ?_⟩
                rw [zeroRow z.cells ei.size hz3 m.toNat]
                exact zeros_cells hzr m.toNat
            obtain ⟨zz, q1, q2⟩ := hz0
            refine ⟨.cells ((Array.range (m.toNat * ei.size)).map (zz[· % zz.size]!)) e (0, 0), _, .slice (some ⟨w.heap.size, 0, none⟩) n.toNat m.toNat, ?_, fun β' name hle hn => ?_, fun β' hp hle hh => objR_new (q2.mono hle) (zeros_one h1 _) hh false _ (fun _ _ e => by cases e)⟩
            · simp only [execOp, Instr.makeSlice, Sem.run_bind, u1, Result.andThen_ok, e1, e2, asInt, asIntOf, Sem.run_pure, ht1, w1, w2]
              rw [if_neg (by rw [ht3]; simp; omega)]
              simp only [Sem.run_bind, run_askRoom, Result.andThen_ok, T.run_sizeOf hei]
              rcases q1 with ⟨h0, rfl⟩ | ⟨h0, rfl⟩
              · simp only [h0, if_true]
                simp only [newRow, Sem.run_bind, Sem.run_pure]
                rfl
              · simp only [h0, if_false, Sem.run_bind, hz1, Result.andThen_ok]
                simp only [newRow, Sem.run_bind, Sem.run_pure]
                rfl
            · have hl : ((Array.range (m.toNat * ei.size)).map (zz[· % zz.size]!)).size = m.toNat * ei.size := by simp
              exact .slice name 0 n.toNat m.toNat ei.size true _ 0 _ 0 m.toNat hn (.inl rfl) (Nat.le_refl _) (fun _ => rfl) (by rw [hl]; omega) (by omega)
          · cases h
        · cases h
      · cases h
    · cases h
  · cases h

end Go.Sx
