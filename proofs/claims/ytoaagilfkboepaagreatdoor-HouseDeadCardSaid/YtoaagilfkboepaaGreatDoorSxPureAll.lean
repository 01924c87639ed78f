/-
  SX, part 4: the operations that look at no block: what the abstract interpreter answers, the model answers.
-/
import Derived.Test.YtoaagilfkboepaaGreatDoorSxOne
import Derived.Laws.StructEq
import Derived.Laws.Slices
import Derived.Laws.Strings
import Derived.Laws.Build
import Derived.Calls
set_option linter.unusedSimpArgs false
set_option linter.unusedVariables false
namespace Go.Sx

/-- The interpreter's table of types tells the program's types. -/
structure TyOk (P : Program) (types : TypeId → Option TInfo) : Prop where
  desc : ∀ t i, types t = some i → P.underlying t = some i.desc
  size : ∀ t i, types t = some i → ∃ ti, P.info? t = some ti ∧ ti.size = i.size ∧ ti.bytes = i.bytes
  zero : ∀ t i, types t = some i → ∃ ti z, P.info? t = some ti ∧ ti.zero = some z ∧ ofConst z = some i.zero ∧ z.cells.size = i.size
  plain : ∀ t i, types t = some i → i.plain = true → P.stoodInHeld t = false ∧ P.eqGuardType P.depth t = false
  methods : ∀ t i name f p, types t = some i → findMethod i.methods name = some (f, p) → ∃ ti m, P.info? t = some ti ∧ ti.methods.find? (·.name == name) = some m ∧ m.path = #[] ∧ m.func = some (f, p)

section
variable {P : Program} {types : TypeId → Option TInfo} (T : TyOk P types) {t : TypeId} {i : TInfo} (h : types t = some i) (w : World)
include T h
theorem TyOk.run_underlying : (underlying t).run P w = .ok i.desc w := Go.run_underlying (T.desc t i h) w
theorem TyOk.run_sizeOf : (sizeOf t).run P w = .ok i.size w := by
  obtain ⟨ti, h1, h2, h3⟩ := T.size t i h
  simp [sizeOf, typeInfo, h1, h2]
theorem TyOk.run_typeInfo : ∃ ti, (typeInfo t).run P w = .ok ti w ∧ ti.size = i.size ∧ ti.bytes = i.bytes := by
  obtain ⟨ti, h1, h2, h3⟩ := T.size t i h
  exact ⟨ti, by simp [typeInfo, h1], h2, h3⟩
theorem TyOk.run_isAgg : (isAgg t).run P w = .ok i.isAgg w := by
  unfold isAgg
  simp only [Sem.run_bind, T.run_underlying h w, Result.andThen_ok, TInfo.isAgg]
  split <;> simp_all
theorem TyOk.run_zero : ∃ z, (zeroValue t).run P w = .ok z w ∧ ofConst z = some i.zero ∧ z.cells.size = i.size := by
  obtain ⟨ti, z, h1, h2, h3, h4⟩ := T.zero t i h
  exact ⟨z, by simp [zeroValue, typeInfo, h1, h2], h3, h4⟩
end

/-! ### The frame -/

/-- An abstract frame stands for a frame's slots. -/
def FrR (β : Emb) (fr : AFrame) (tmps : Array Value) : Prop := VRs β fr tmps.toList

theorem ofConst_VR {β : Emb} {v : Value} {a : AVal} (h : ofConst v = some a) : VR β a v := by
  unfold ofConst at h
  split at h
  · rename_i cs
    split at h
    · rename_i l hl
      split at h
      · rename_i h1
        cases h
        exact .agg _ _ (ofScalars_VRs hl) h1
      · cases h
    · cases h
  · exact ofScalar_VR h

theorem FrR.eval {β : Emb} {fr : AFrame} {a : Act} (h : FrR β fr a.tmps) {x : Operand} {v : AVal} (hx : fr.get x = some v) : VR β v (a.eval x) := by
  cases x with
  | tmp t =>
    obtain ⟨u, hu, hr⟩ := VRs.get h hx
    have : a.tmps[t]? = some u := by simpa using hu
    simp [Act.eval, this]; exact hr
  | const c => exact ofConst_VR hx
  | global g => cases hx
  | func f => cases hx; exact .func _ _ _ _ _ .nil .nil

/-! ### What is said of a scalar -/

theorem Scal.same_eq {a b : Scal} (h : a.same b = true) : a = b := by
  cases a <;> cases b <;> simp_all [Scal.same]

theorem SQ.same_eq {a b : SQ} (h : a.same b = true) : a = b := by
  cases a <;> cases b <;> simp_all [SQ.same]
  exact Scal.same_eq h.2

theorem SFacts.ask_ok {v : Scal} {q : SQ} {r : SRes} : ∀ {fs : SFacts}, fs.Ok v → fs.ask q = some r → qEval q v = some r.toAVal.conc ∧ r.Ok
  | .nil, _, h => by cases h
  | .cons p r' rest, hok, h => by
    unfold SFacts.Ok at hok
    unfold SFacts.ask at h
    split at h
    · rename_i e
      cases h
      cases SQ.same_eq e
      exact ⟨hok.1, hok.2.1⟩
    · exact SFacts.ask_ok hok.2.2 h

theorem Sym.ask_ok {s : Sym} {q : SQ} {r : SRes} (hok : s.Ok) (h : s.ask q = some r) : qEval q s.val = some r.toAVal.conc ∧ r.Ok := by
  cases s with
  | mk v t fs =>
    unfold Sym.Ok at hok
    exact SFacts.ask_ok hok h

theorem VR.sym_inv {β : Emb} {s : Sym} {v : Value} (h : VR β (.sym s) v) : s.Ok ∧ VR β s.val.toAVal v := by
  cases h with | sym _ _ h hv => exact ⟨h, hv⟩

theorem SRes.back {β : Emb} {r : SRes} (hok : r.Ok) {v : Value} (h : VR β r.toAVal.conc v) : VR β r.toAVal v := by
  cases r with
  | bool b => exact h
  | int k n => exact h
  | sym s =>
    unfold SRes.Ok at hok
    exact .sym s v hok h

theorem askBool_ok {s : Sym} {q : SQ} {b : Bool} (hok : s.Ok) (h : askBool s q = some b) : qEval q s.val = some (.bool b) := by
  unfold askBool at h
  split at h
  · rename_i b' hq
    cases h
    exact (Sym.ask_ok hok hq).1
  · cases h

theorem aEqual_conc {types : TypeId → Option TInfo} {β : Emb} {i : TInfo} {x y : AVal} {x' y' : Value} (hx : VR β x x') (hy : VR β y y') {b : Bool} (h : aEqual types i x y = some b) :
    aEqualC types i x.conc y.conc = some b := by
  unfold aEqual at h
  split at h
  · cases h
  · rename_i s c
    split at h
    · rename_i hd
      have := askBool_ok hx.sym_inv.1 h
      generalize hv : s.val = v at this
      cases v with
      | str a =>
        simp only [qEval, Option.some.injEq, AVal.bool.injEq] at this
        simp only [AVal.conc, hv, Scal.toAVal, aEqualC, aEql, hd, this]
      | int k n => simp [qEval] at this
    · cases h
  · rename_i s k n
    split at h
    · rename_i hd
      have := askBool_ok hx.sym_inv.1 h
      generalize hv : s.val = v at this
      cases v with
      | str a => simp [qEval] at this
      | int k' a =>
        simp only [qEval] at this
        split at this
        · rename_i e
          simp only [Option.some.injEq, AVal.bool.injEq] at this
          simp only [AVal.conc, hv, Scal.toAVal, aEqualC, aEql, hd, this, e, if_true]
        · cases this
    · cases h
  · rename_i c s
    split at h
    · rename_i hd
      have := askBool_ok hy.sym_inv.1 h
      generalize hv : s.val = v at this
      cases v with
      | str a =>
        simp only [qEval, Option.some.injEq, AVal.bool.injEq] at this
        simp only [AVal.conc, hv, Scal.toAVal, aEqualC, aEql, hd, this]
      | int k n => simp [qEval] at this
    · cases h
  · rename_i k n s
    split at h
    · rename_i hd
      have := askBool_ok hy.sym_inv.1 h
      generalize hv : s.val = v at this
      cases v with
      | str a => simp [qEval] at this
      | int k' a =>
        simp only [qEval] at this
        split at this
        · rename_i e
          simp only [Option.some.injEq, AVal.bool.injEq] at this
          simp only [AVal.conc, hv, Scal.toAVal, aEqualC, aEql, hd, this, e, if_true]
        · cases this
    · cases h
  · cases h
  · cases h
  · have e1 : x.conc = x := by cases x <;> first | rfl | (exfalso; simp_all)
    have e2 : y.conc = y := by cases y <;> first | rfl | (exfalso; simp_all)
    rw [e1, e2]
    exact h

theorem conc_nilIface {x : AVal} (h : x.conc = .nilIface) : x = .nilIface := by
  cases x with
  | sym s => cases s with | mk v t f => cases v <;> cases h
  | _ => exact h

theorem nilsOk_conc {ox oy : Operand} {x y : AVal} (h : nilsOk ox oy x y = true) : nilsOk ox oy x.conc y.conc = true := by
  unfold nilsOk
  split
  · rename_i ex ey
    rw [conc_nilIface ex, conc_nilIface ey] at h
    exact h
  · rfl

theorem qEval_bin {op : BinOp} (h1 : op ≠ .eql) (v c : Scal) : qEval (.bin op true c) v = aBinC op v.toAVal c.toAVal ∧ qEval (.bin op false c) v = aBinC op c.toAVal v.toAVal := by
  cases op <;> first | exact absurd rfl h1 | exact ⟨rfl, rfl⟩

theorem scal_toAVal {y : AVal} {c : Scal} (h : y.scal = some c) : y = c.toAVal := by
  cases y <;> simp [AVal.scal] at h <;> subst h <;> rfl

theorem toAVal_conc (c : Scal) : c.toAVal.conc = c.toAVal := by cases c <;> rfl

theorem aBinS_conc {β : Emb} {op : BinOp} (h1 : op ≠ .eql) {x y v : AVal} {x' y' : Value} (hx : VR β x x') (hy : VR β y y') (h : aBinS op x y = some v) :
    ∃ u, aBinC op x.conc y.conc = some u ∧ ∀ u', VR β u u' → VR β v u' := by
  unfold aBinS at h
  split at h
  · cases h
  · rename_i s _
    split at h
    · rename_i c hc
      cases hq : s.ask (.bin op true c) with
      | none => rw [hq] at h; cases h
      | some r =>
        rw [hq] at h
        cases h
        obtain ⟨q1, q2⟩ := Sym.ask_ok hx.sym_inv.1 hq
        rw [(qEval_bin h1 _ _).1] at q1
        refine ⟨_, ?_, fun u' hu => SRes.back q2 hu⟩
        rw [scal_toAVal hc, toAVal_conc]
        exact q1
    · cases h
  · rename_i s _
    split at h
    · rename_i c hc
      cases hq : s.ask (.bin op false c) with
      | none => rw [hq] at h; cases h
      | some r =>
        rw [hq] at h
        cases h
        obtain ⟨q1, q2⟩ := Sym.ask_ok hy.sym_inv.1 hq
        rw [(qEval_bin h1 _ _).2] at q1
        refine ⟨_, ?_, fun u' hu => SRes.back q2 hu⟩
        rw [scal_toAVal hc, toAVal_conc]
        exact q1
    · cases h
  · rename_i h2 h3
    have e1 : x.conc = x := by cases x <;> first | rfl | (exfalso; simp_all)
    have e2 : y.conc = y := by cases y <;> first | rfl | (exfalso; simp_all)
    rw [e1, e2]
    exact ⟨v, h, fun _ hu => hu⟩

theorem keyOk_conc {types : TypeId → Option TInfo} {β : Emb} {ki : TInfo} {k : AVal} {k' : Value} (hk : VR β k k') (h : keyOk types ki k = true) : keyOkC types ki k.conc = true := by
  unfold keyOk at h
  split at h
  · rename_i s
    split at h
    · rename_i r hd hq
      have := (Sym.ask_ok hk.sym_inv.1 hq).1
      generalize hv : s.val = v at this
      cases v with
      | str a => simp [AVal.conc, hv, Scal.toAVal, keyOkC, hd, aEqualC, aEql]
      | int k n => cases this
    · cases h
  · have e1 : k.conc = k := by cases k <;> first | rfl | (exfalso; simp_all)
    rw [e1]
    exact h

/-! ### '==' -/

section eq
variable {P : Program} {types : TypeId → Option TInfo} (T : TyOk P types) {β : Emb} (w : World)

theorem data_eq (a b : ByteArray) : (a.toList == b.toList) = (a.data.toList == b.data.toList) := by rw [ByteArray.toList_eq, ByteArray.toList_eq]

theorem run_eql_of {t : TypeId} {x y : Value} {b : Bool} (hb : binOp .eql t x y = (do pure (.bool (← Op.equal t x y)))) (he : ∀ d, (Op.equalIn (d + 1) t x y).run P w = .ok b w) :
    (binOp .eql t x y).run P w = .ok (.bool b) w := by
  rw [hb]
  have : Op.equal t x y = Op.equalIn (9999 + 1) t x y := rfl
  rw [this]
  simp [he]

theorem run_neq_of {t : TypeId} {x y : Value} {b : Bool} (hb : binOp .neq t x y = (do pure (.bool (!(← Op.equal t x y))))) (he : ∀ d, (Op.equalIn (d + 1) t x y).run P w = .ok b w) :
    (binOp .neq t x y).run P w = .ok (.bool !b) w := by
  rw [hb]
  have : Op.equal t x y = Op.equalIn (9999 + 1) t x y := rfl
  rw [this]
  simp [he]

include T in
set_option maxHeartbeats 1000000 in
theorem eql_sound {t : TypeId} {i : TInfo} (hi : types t = some i) {x y : AVal} {x' y' : Value} (hx : VR β x x') (hy : VR β y y') {b : Bool} (h : aEql i.desc x y = some b) :
    (binOp .eql t x' y').run P w = .ok (.bool b) w ∧ (binOp .neq t x' y').run P w = .ok (.bool !b) w := by
  have hu := T.desc t i hi
  unfold aEql at h
  split at h
  case h_1 a c hd => cases h; cases hx; cases hy; rw [hd] at hu; exact ⟨run_eql_bool _ _ _ _ hu, run_neq_bool _ _ _ _ hu⟩
  case h_2 k a l c hd =>
    split at h
    · rename_i hk
      cases h; cases hx; cases hy; subst hk
      exact ⟨by simp [binOp, Op.intCmp], by simp [binOp, Op.intCmp, bne]⟩
    · cases h
  case h_3 a c hd => cases h; cases hx; cases hy; exact ⟨by simp only [binOp_string_eql, data_eq]; rfl, by simp only [binOp_string_neq, data_eq]; rfl⟩
  case h_19 => cases h
  all_goals
    rename_i hd
    cases h; cases hx; cases hy; rw [hd] at hu
    refine (fun he => ⟨run_eql_of _ rfl he, run_neq_of _ rfl he⟩) fun d => ?_
    simp [Op.equalIn, Go.run_underlying hu]

/-- A part of a row of cells. -/
theorem TyOk.run_part_one {t : TypeId} {i : TInfo} (T : TyOk P types) (hi : types t = some i) (ha : i.isAgg = false) {cs : Array Value} {off : Nat} {v : Value} (hv : cs[off]? = some v) :
    (part t cs off).run P w = .ok v w := by
  simp [part, T.run_isAgg hi, ha, hv]

theorem isAgg_of_scalar {i : TInfo} (h : scalarDesc i.desc = true) : i.isAgg = false := by
  unfold TInfo.isAgg
  split
  · rename_i hd; rw [hd] at h; simp [scalarDesc] at h
  · rename_i hd; rw [hd] at h; simp [scalarDesc] at h
  · rfl

include T in
theorem scalar_equalIn {t : TypeId} {i : TInfo} (hi : types t = some i) (hs : scalarDesc i.desc = true) {x y : AVal} {x' y' : Value} (hx : VR β x x') (hy : VR β y y') {b : Bool} (h : aEql i.desc x y = some b) (d : Nat) :
    (Op.equalIn (d + 1) t x' y').run P w = .ok b w := by
  have hu := T.desc t i hi
  unfold aEql at h
  split at h
  case h_1 a c hd => cases h; cases hx; cases hy; rw [hd] at hu; exact run_equalIn_bool w d t _ _ hu
  case h_2 k a l c hd =>
    split at h
    · rename_i hk
      cases h; cases hx; cases hy; subst hk; rw [hd] at hu
      exact run_equalIn_int w d t _ _ _ _ hu
    · cases h
  case h_3 a c hd => cases h; cases hx; cases hy; rw [hd] at hu; rw [run_equalIn_string w d t _ _ hu, data_eq]
  case h_19 => cases h
  all_goals (rename_i hd; rw [hd] at hs; simp [scalarDesc] at hs)

include T in
theorem eqlFields_sound (d : Nat) : ∀ (fs : List Field) (n : Nat) (xs ys : List AVal) (xs' ys' : Array Value) (b : Bool), VRs β xs (xs'.toList.drop n) → VRs β ys (ys'.toList.drop n) →
    aEqlFields types fs n xs ys = some b → (Op.eqFields (d + 1) xs' ys' fs).run P w = .ok b w := by
  intro fs
  induction fs with
  | nil =>
    intro n xs ys xs' ys' b hx hy h
    unfold aEqlFields at h
    split at h <;> first | (cases h; simp [Op.eqFields]; done) | (cases h; done) | skip
    all_goals simp_all
  | cons f fs ih =>
    intro n xs ys xs' ys' b hx hy h
    cases xs with
    | nil => simp [aEqlFields] at h
    | cons a l =>
      cases ys with
      | nil => simp [aEqlFields] at h
      | cons c m =>
        simp only [aEqlFields] at h
        split at h
        · rename_i hf
          obtain ⟨hof, hnm⟩ := hf
          split at h
          · rename_i i hi
            split at h
            · rename_i hs
              generalize hdx : xs'.toList.drop n = dx at hx
              generalize hdy : ys'.toList.drop n = dy at hy
              cases hx with
              | cons _ a' _ l' hax hlx =>
                cases hy with
                | cons _ c' _ m' hay hly =>
                  have e1 : xs'[n]? = some a' := by
                    have := congrArg (fun l => l[0]?) hdx
                    simpa using this
                  have e2 : ys'[n]? = some c' := by
                    have := congrArg (fun l => l[0]?) hdy
                    simpa using this
                  have t1 : xs'.toList.drop (n + 1) = l' := by rw [← List.drop_drop, hdx]; rfl
                  have t2 : ys'.toList.drop (n + 1) = m' := by rw [← List.drop_drop, hdy]; rfl
                  have ha := isAgg_of_scalar hs
                  simp only [Op.eqFields, hnm, ne_eq, not_false_eq_true, if_true, Sem.run_bind, hof, T.run_part_one w hi ha e1, T.run_part_one w hi ha e2, Result.andThen_ok]
                  split at h
                  · rename_i he
                    rw [scalar_equalIn T w hi hs hax hay he d]
                    simp only [Result.andThen_ok, Bool.not_true, Bool.false_eq_true, if_false]
                    exact ih (n + 1) l m xs' ys' b (t1 ▸ hlx) (t2 ▸ hly) h
                  · rename_i he
                    cases h
                    rw [scalar_equalIn T w hi hs hax hay he d]
                    simp
                  · cases h
            · cases h
          · cases h
        · cases h

include T in
/-- '==' on structs. -/
theorem struct_equalIn {t : TypeId} {i : TInfo} (hi : types t = some i) (hp : i.plain = true) {fs : Array Field} (hd : i.desc = .struct fs) {xs ys : List AVal} {xs' ys' : Array Value}
    (hx : VRs β xs xs'.toList) (hy : VRs β ys ys'.toList) {b : Bool} (h : aEqlFields types fs.toList 0 xs ys = some b) (d : Nat) :
    (Op.equalIn (d + 2) t (.agg xs') (.agg ys')).run P w = .ok b w := by
  have hu := T.desc t i hi
  rw [hd] at hu
  have hf : P.fieldsOf t = fs := by simp [Program.fieldsOf, hu]
  rw [run_equalIn_struct w (d + 1) t xs' ys' (by rw [hf]; exact hu) (T.plain t i hi hp).1, hf]
  exact eqlFields_sound T w d fs.toList 0 xs ys xs' ys' b (by simpa using hx) (by simpa using hy) h

include T in
/-- '==', '!=': all of it, with the guard on nil interface values ahead. -/
theorem eq_sound {t : TypeId} {i : TInfo} (hi : types t = some i) {x y : AVal} {x' y' : Value} (hx : VR β x x') (hy : VR β y y') {b : Bool} (h : aEqual types i x y = some b)
    (ox oy : Operand) (hn : nilsOk ox oy x y = true) :
    (do eqGuard .eql t ox oy x' y'; binOp .eql t x' y' : Sem Value).run P w = .ok (.bool b) w ∧ (do eqGuard .neq t ox oy x' y'; binOp .neq t x' y' : Sem Value).run P w = .ok (.bool !b) w := by
  replace h := aEqual_conc hx hy h
  replace hn := nilsOk_conc hn
  replace hx := hx.conc
  replace hy := hy.conc
  generalize x.conc = x at *
  generalize y.conc = y at *
  unfold aEqualC at h
  split at h
  · rename_i xs ys
    split at h
    · rename_i hp
      split at h
      · rename_i fs hd
        cases hx with | agg _ xs' hxs _ =>
        cases hy with | agg _ ys' hys _ =>
        have he := struct_equalIn T w hi hp hd hxs hys h 9998
        have hg := (T.plain t i hi hp).2
        constructor
        · simp only [Sem.run_bind, run_eqGuard_agg w _ _ _ _ _ _ hg, Result.andThen_ok, run_eql_struct]
          rw [he]; rfl
        · simp only [Sem.run_bind, run_eqGuard_agg w _ _ _ _ _ _ hg, Result.andThen_ok, run_neq_struct]
          rw [he]; rfl
      · cases h
    · cases h
  · obtain ⟨he, hneq⟩ := eql_sound T w hi hx hy h
    have hgd : ∀ op, (eqGuard op t ox oy x' y').run P w = .ok () w := by
      intro op
      cases hx <;> cases hy <;> first
        | (cases op <;> rfl)
        | (simp only [nilsOk] at hn; split at hn <;> first | (cases op <;> simp [eqGuard]; done) | simp at hn)
        | (simp [aEql] at h; done)
        | (unfold aEql at h; split at h <;> simp_all; done)
    exact ⟨by simp only [Sem.run_bind, hgd, Result.andThen_ok]; exact he, by simp only [Sem.run_bind, hgd, Result.andThen_ok]; exact hneq⟩

/-! ### Operators -/

theorem bytesLess_data (a b : ByteArray) : Op.bytesLess a.toList b.toList = Op.bytesLess a.data.toList b.data.toList := by rw [ByteArray.toList_eq, ByteArray.toList_eq]

theorem size_data (a : ByteArray) : a.data.toList.length = a.size := by rw [Array.length_toList]; rfl

theorem append_data (a b : ByteArray) : (a ++ b).data.toList = a.data.toList ++ b.data.toList := by
  rw [ByteArray.data_append]; simp

theorem VR.str_of (β : Emb) {l : List UInt8} {b : ByteArray} (h : b.data.toList = l) : VR β (.str l) (.string b) := h ▸ .str b

include T in
theorem bin_sound {op : BinOp} {t : TypeId} {x y v : AVal} {x' y' : Value} (hx : VR β x x') (hy : VR β y y') (h : aBin types op t x y = some v) (ox oy : Operand) (hn : nilsOk ox oy x y = true) :
    ∃ v', (do eqGuard op t ox oy x' y'; binOp op t x' y' : Sem Value).run P w = .ok v' w ∧ VR β v v' := by
  unfold aBin at h
  split at h
  · split at h
    · rename_i i hi
      split at h
      · rename_i b hb
        cases h
        exact ⟨_, (eq_sound T w hi hx hy hb ox oy hn).1, .bool _⟩
      · cases h
    · cases h
  · split at h
    · rename_i i hi
      split at h
      · rename_i b hb
        cases h
        exact ⟨_, (eq_sound T w hi hx hy hb ox oy hn).2, .bool _⟩
      · cases h
    · cases h
  · rename_i hne1 hne2
    have hg : eqGuard op t ox oy x' y' = pure () := by
      cases op <;> first | rfl | exact absurd rfl hne1 | exact absurd rfl hne2
    rw [hg]
    simp only [pure_bind]
    obtain ⟨u, h, hback⟩ := aBinS_conc (fun e => hne1 e) hx hy h
    suffices hs : ∃ v', (binOp op t x' y').run P w = .ok v' w ∧ VR β u v' by
      obtain ⟨v', q1, q2⟩ := hs
      exact ⟨v', q1, hback v' q2⟩
    replace hx := hx.conc
    replace hy := hy.conc
    generalize x.conc = x at *
    generalize y.conc = y at *
    unfold aBinC at h
    split at h
    · rename_i k a l b
      split at h
      · rename_i hk
        subst hk
        cases hx; cases hy
        split at h
        all_goals first
          | (cases h; refine ⟨_, ?_, .int _ _⟩; simp [binOp, Op.intArith, Op.intBits]; done)
          | (cases h; refine ⟨_, ?_, .bool _⟩; simp [binOp, Op.intCmp]; done)
          | (split at h
             · cases h
             · rename_i hb
               cases h; refine ⟨_, ?_, .int _ _⟩; simp [binOp, Op.intDiv, hb]; done)
          | (cases h; done)
      · cases h
    · rename_i a b
      cases hx with | str a =>
      cases hy with | str b =>
      split at h
      · split at h
        · rename_i hl
          cases h
          refine ⟨.string (a ++ b), ?_, VR.str_of _ (append_data a b)⟩
          rw [size_data, size_data] at hl
          simp only [binOp_string_add, Op.stringOp]
          rw [if_neg (by rw [IntKind.max_i64]; omega)]
          rfl
        · cases h
      all_goals first
        | (cases h; refine ⟨_, ?_, .bool _⟩; simp only [binOp, Op.stringOp, bytesLess_data, data_eq]; rfl)
        | (cases h; done)
    · cases h

omit T in
theorem un_sound {op : UnOp} {x v : AVal} {x' : Value} (hx : VR β x x') (h : aUn op x = some v) : ∃ v', (Op.unary op x').run P w = .ok v' w ∧ VR β v v' := by
  unfold aUn at h
  split at h
  · cases h; cases hx; exact ⟨_, rfl, .int _ _⟩
  · cases h; cases hx; exact ⟨_, rfl, .bool _⟩
  · cases h

end eq

end Go.Sx

/-
  SX, part 5: the operations that look at no block, the rest of them; all of them in one theorem.
-/
namespace Go.Sx

variable {P : Program} {types : TypeId → Option TInfo} (T : TyOk P types) {β : Emb} (w : World)

/-! ### Slice expressions -/

def OptR (β : Emb) : Option AVal → Option Value → Prop
  | none, none => True
  | some a, some v => VR β a v
  | _, _ => False

theorem bound_sound {x : AVal} {x' : Value} (hx : VR β x x') {m y r : Nat} (hm : m ≤ y) (h : aBound x m = some r) (code : BoundsCode) :
    (Instr.sliceBound x' y code).run P w = .ok r w ∧ r ≤ m := by
  unfold aBound at h
  split at h
  · split at h
    · rename_i k i hb
      cases h; cases hx
      refine ⟨?_, by omega⟩
      simp only [Instr.sliceBound, asIntOf, pure_bind]
      rw [if_pos ⟨hb.1, by omega⟩]; rfl
    · cases h
  · cases h

theorem bounds_sound {len cap cap' : Nat} (hl : len ≤ cap) (hc : cap ≤ cap') {lo hi mx : Option AVal} {lo' hi' mx' : Option Value} (h1 : OptR β lo lo') (h2 : OptR β hi hi') (h3 : OptR β mx mx')
    {l h m : Nat} (hb : aBounds len cap lo hi mx = some (l, h, m)) (s : Bool) :
    ∃ m', (Instr.sliceBounds s len cap' lo' hi' mx').run P w = .ok (l, h, m') w ∧ m ≤ m' ∧ m' ≤ cap' ∧ l ≤ h ∧ h ≤ m ∧ (mx.isSome = true → m' = m) ∧ (mx.isSome = false → m = cap ∧ m' = cap') := by
  unfold aBounds at hb
  unfold Instr.sliceBounds
  cases mx with
  | none =>
    cases mx' with
    | some _ => exact h3.elim
    | none =>
      simp only at hb
      cases hi with
      | none =>
        cases hi' with
        | some _ => exact h2.elim
        | none =>
          simp only at hb
          cases lo with
          | none =>
            cases lo' with
            | some _ => exact h1.elim
            | none => simp at hb; obtain ⟨rfl, rfl, rfl⟩ := hb; exact ⟨cap', by simp, hc, Nat.le_refl _, Nat.zero_le _, hl, by simp, by simp⟩
          | some v =>
            cases lo' with
            | none => exact h1.elim
            | some v' =>
              simp only at hb
              split at hb
              · cases hb
              · rename_i r hr
                cases hb
                obtain ⟨q1, q2⟩ := bound_sound (P := P) w h1 (Nat.le_refl _) hr .sliceB
                exact ⟨cap', by simp [q1], hc, Nat.le_refl _, q2, hl, by simp, by simp⟩
      | some u =>
        cases hi' with
        | none => exact h2.elim
        | some u' =>
          simp only at hb
          split at hb
          · cases hb
          · rename_i hh hhr
            cases lo with
            | none =>
              cases lo' with
              | some _ => exact h1.elim
              | none =>
                simp at hb; obtain ⟨rfl, rfl, rfl⟩ := hb
                obtain ⟨q1, q2⟩ := bound_sound (P := P) w h2 hc hhr (if s then .sliceAcap else .sliceAlen)
                exact ⟨cap', by simp [q1], hc, Nat.le_refl _, Nat.zero_le _, q2, by simp, by simp⟩
            | some v =>
              cases lo' with
              | none => exact h1.elim
              | some v' =>
                simp only at hb
                split at hb
                · cases hb
                · rename_i r hr
                  cases hb
                  obtain ⟨q1, q2⟩ := bound_sound (P := P) w h2 hc hhr (if s then .sliceAcap else .sliceAlen)
                  obtain ⟨q3, q4⟩ := bound_sound (P := P) w h1 (Nat.le_refl _) hr .sliceB
                  exact ⟨cap', by simp [q1, q3], hc, Nat.le_refl _, q4, q2, by simp, by simp⟩
  | some x =>
    cases mx' with
    | none => exact h3.elim
    | some x' =>
      simp only at hb
      split at hb
      · cases hb
      · rename_i mm hm
        obtain ⟨q5, q6⟩ := bound_sound (P := P) w h3 hc hm (if s then .slice3Acap else .slice3Alen)
        cases hi with
        | none => simp at hb
        | some u =>
          cases hi' with
          | none => exact h2.elim
          | some u' =>
            simp only at hb
            split at hb
            · cases hb
            · rename_i hh hhr
              obtain ⟨q1, q2⟩ := bound_sound (P := P) w h2 (Nat.le_refl _) hhr .slice3B
              cases lo with
              | none =>
                cases lo' with
                | some _ => exact h1.elim
                | none =>
                  simp at hb; obtain ⟨rfl, rfl, rfl⟩ := hb
                  exact ⟨_, by simp [q5, q1], Nat.le_refl _, by omega, Nat.zero_le _, q2, by simp, by simp⟩
              | some v =>
                cases lo' with
                | none => exact h1.elim
                | some v' =>
                  simp only at hb
                  split at hb
                  · cases hb
                  · rename_i r hr
                    cases hb
                    obtain ⟨q3, q4⟩ := bound_sound (P := P) w h1 (Nat.le_refl _) hr .slice3C
                    exact ⟨_, by simp [q5, q1, q3], Nat.le_refl _, by omega, q4, q2, by simp, by simp⟩

theorem extract_data (s : ByteArray) (l h : Nat) : (s.extract l h).data.toList = (s.data.toList.drop l).take (h - l) := by
  rw [ByteArray.data_extract]; simp [List.extract_eq_take_drop]

include T in
theorem slice_sound {t : TypeId} {x v : AVal} {x' : Value} (hx : VR β x x') {lo hi mx : Option AVal} {lo' hi' mx' : Option Value} (h1 : OptR β lo lo') (h2 : OptR β hi hi') (h3 : OptR β mx mx')
    (h : aSlice types t x lo hi mx = some v) : ∃ v', (Instr.sliceAt t x' lo' hi' mx').run P w = .ok v' w ∧ VR β v v' := by
  unfold aSlice at h
  split at h
  · cases h
  · rename_i i hi0
    have hu := T.run_underlying hi0 w
    split at h
    · rename_i s hd
      rw [hd] at hu
      split at h
      · cases h
      · rename_i hmx
        split at h
        · rename_i l hh m hb
          cases h
          cases hx with | str s =>
          cases mx with
          | some _ => simp at hmx
          | none =>
            cases mx' with
            | some _ => exact h3.elim
            | none =>
              rw [size_data] at hb
              obtain ⟨m', q1, _⟩ := bounds_sound (P := P) w (Nat.le_refl _) (Nat.le_refl _) h1 h2 (mx := none) (mx' := none) trivial hb false
              refine ⟨.string (s.extract l hh), ?_, VR.str_of _ (extract_data s l hh)⟩
              simp only [Instr.sliceAt, Instr.slice, Sem.run_bind, hu, Result.andThen_ok, Option.isSome_none, Bool.false_eq_true, if_false, Sem.run_ite, Sem.run_pure]
              rw [q1]; rfl
        · cases h
    · rename_i e b off len cap sz ex hd
      rw [hd] at hu
      split at h
      · cases h
      · rename_i ei hei
        split at h
        · rename_i hsz
          split at h
          · rename_i l hh m hb
            cases h
            cases hx with
            | slice b off len cap sz ex c base n o cap' hβ ho hc he hn hl =>
              obtain ⟨m', q1, q2, q3, q4, q5, q6, q7⟩ := bounds_sound (P := P) w hl hc h1 h2 h3 hb true
              refine ⟨.slice (some (if m' = l then (⟨c, o, none⟩ : Addr) else Addr.add ⟨c, o, none⟩ (l * sz))) (hh - l) (m' - l), ?_, ?_⟩
              · simp only [Instr.sliceAt, Instr.slice, Sem.run_bind, hu, Result.andThen_ok]
                rw [q1]
                simp only [Result.andThen_ok, T.run_sizeOf hei, hsz, Sem.run_pure, Option.map_some]
                by_cases e : m' = l <;> simp [e]
              · by_cases e : m' = l
                · rw [if_pos e]
                  refine .slice _ _ _ _ _ _ c base n o (m' - l) hβ (.inr (by omega)) (by omega) (fun hx => ?_) ?_ (by omega)
                  · simp at hx
                    rcases hx with hx | hx
                    · cases hmx : mx.isSome with
                      | true => rw [q6 hmx]
                      | false => obtain ⟨a1, a2⟩ := q7 hmx; rw [a1, a2, he hx]
                    · rw [q6 hx]
                  · have : m' - l = 0 := by omega
                    rw [this]; simp; omega
                · rw [if_neg e]
                  have ha : Addr.add ⟨c, o, none⟩ (l * sz) = ⟨c, o + l * sz, none⟩ := by
                    unfold Addr.add; split
                    · rename_i hz; simp [hz]
                    · rfl
                  rw [ha]
                  have ho' : o = base + off := by
                    rcases ho with ho | ho
                    · exact ho
                    · omega
                  refine .slice _ _ _ _ _ _ c base n (o + l * sz) (m' - l) hβ (.inl (by omega)) (by omega) (fun hx => ?_) ?_ (by omega)
                  · simp at hx
                    rcases hx with hx | hx
                    · cases hmx : mx.isSome with
                      | true => rw [q6 hmx]
                      | false => obtain ⟨a1, a2⟩ := q7 hmx; rw [a1, a2, he hx]
                    · rw [q6 hx]
                  · have h5 : (m' - l) * sz = m' * sz - l * sz := Nat.sub_mul _ _ _
                    have h6 : m' * sz ≤ cap' * sz := Nat.mul_le_mul_right _ q3
                    have h7 : l * sz ≤ m' * sz := Nat.mul_le_mul_right _ (by omega)
                    omega
          · cases h
        · cases h
    · rename_i e hd
      rw [hd] at hu
      split at h
      · rename_i ei r hei hb
        obtain ⟨l, hh, m⟩ := r
        cases h
        cases hx
        obtain ⟨m', q1, q2, q3, q4, q5, q6, q7⟩ := bounds_sound (P := P) w (Nat.le_refl 0) (Nat.le_refl 0) h1 h2 h3 hb true
        refine ⟨.slice none (hh - l) (m' - l), ?_, ?_⟩
        · simp only [Instr.sliceAt, Instr.slice, Sem.run_bind, hu, Result.andThen_ok]
          rw [q1]
          simp only [Result.andThen_ok, T.run_sizeOf hei, Sem.run_pure, Option.map_none]
          by_cases e : m' = l <;> simp [e]
        · have e1 : hh - l = 0 := by omega
          have e2 : m' - l = 0 := by omega
          rw [e1, e2]; exact .nilslice
      · cases h
    · cases h

end Go.Sx

/-
  SX, part 6: composite values built of parts; all operations that look at no block, in one theorem.
-/
namespace Go.Sx

variable {P : Program} {types : TypeId → Option TInfo} (T : TyOk P types) {β : Emb} (w : World)

theorem splice_list (off : Nat) : ∀ (l : List Value) (k : Nat) (cs : Array Value), off + k + l.length ≤ cs.size →
    ((l.zipIdx k).foldl (fun (cs : Array Value) (p : Value × Nat) => cs.setIfInBounds (off + p.2) p.1) cs).toList = cs.toList.take (off + k) ++ (l ++ cs.toList.drop (off + k + l.length)) := by
  intro l
  induction l with
  | nil => intro k cs h; simp
  | cons v l ih =>
    intro k cs h
    simp only [List.length_cons] at h
    rw [List.zipIdx_cons, List.foldl_cons, ih (k + 1) _ (by simp; omega)]
    simp only [Array.toList_setIfInBounds, List.length_cons]
    have h1 : (cs.toList.set (off + k) v).take (off + (k + 1)) = cs.toList.take (off + k) ++ [v] := by
      rw [show off + (k + 1) = (off + k) + 1 from by omega, List.take_succ_eq_append_getElem (by simp; omega)]
      simp only [List.getElem_set_self]
      rw [List.take_set, List.set_eq_of_length_le (by simp; omega)]
    have h2 : (cs.toList.set (off + k) v).drop (off + (k + 1) + l.length) = cs.toList.drop (off + k + (l.length + 1)) := by
      rw [List.drop_set_of_lt (by omega)]
      congr 1; omega
    rw [h1, h2]
    simp

/-- A row of cells with others laid over a part of it. -/
theorem VRs.splice {as bs new : List AVal} {off : Nat} {vs ws news : List Value} (h : VRs β as vs) (hn : VRs β new news) (hw : writeCells as off new = some bs) :
    VRs β bs (vs.take off ++ (news ++ vs.drop (off + news.length))) ∧ off + news.length ≤ vs.length := by
  unfold writeCells at hw
  split at hw
  · rename_i hl
    cases hw
    have e1 := hn.length
    have e2 := h.length
    refine ⟨(h.take off).append (hn.append ?_), by omega⟩
    rw [← e1]
    exact h.drop _
  · cases hw

theorem VRs.one_agg {cs : List AVal} {cs' : Array Value} (h : VRs β cs cs'.toList) (h1 : cs.all AVal.one = true) : VR β (.agg cs) (.agg cs') := .agg _ _ h h1

theorem VR.cells {v : AVal} {v' : Value} (h : VR β v v') : VRs β v.cells v'.cells.toList := by
  cases h <;> first
    | (rename_i s hok hv
       have hh : VR β (.sym s) v' := .sym s v' hok hv
       rcases Scal.cases_VR hv with ⟨b, rfl⟩ | ⟨k, n, rfl⟩
       · exact .cons _ _ _ _ hh .nil
       · exact .cons _ _ _ _ hh .nil)
    | (rename_i hs h1; exact hs)
    | (simp only [AVal.cells, Value.cells]; exact .cons _ _ _ _ (by first | exact .bool _ | exact .int _ _ | exact .str _ | exact .nilptr | exact .nilslice | exact .nilmap | exact .nilFunc | exact .nilIface | (constructor <;> assumption)) .nil)

theorem VR.cells' {v : AVal} {v' : Value} (h : VR β v v') : v.cells.length = v'.cells.size := by
  have := h.cells.length
  simpa using this

inductive PartsR (β : Emb) : List (Nat × AVal) → List (Nat × Value) → Prop where
  | nil : PartsR β [] []
  | cons (i : Nat) (a : AVal) (v : Value) (l : List (Nat × AVal)) (l' : List (Nat × Value)) (h : VR β a v) (hs : PartsR β l l') : PartsR β ((i, a) :: l) ((i, v) :: l')

theorem getParts_R {fr : AFrame} {a : Act} (hF : FrR β fr a.tmps) : ∀ {ps : List (Nat × Operand)} {l : List (Nat × AVal)}, getParts fr ps = some l → PartsR β l (ps.map fun p => (p.1, a.eval p.2))
  | [], l, h => by cases h; exact .nil
  | (i, x) :: ps, l, h => by
    unfold getParts at h
    split at h
    · rename_i v vs hv hvs
      cases h
      exact .cons _ _ _ _ _ (hF.eval hv) (getParts_R hF hvs)
    · cases h

theorem fill_sound {place place' : Nat → Option (Nat × Nat)} (hp : ∀ i x, place i = some x → place' i = some x) : ∀ {parts : List (Nat × AVal)} {parts' : List (Nat × Value)}, PartsR β parts parts' →
    ∀ {cells res : List AVal} {cells' : Array Value}, VRs β cells cells'.toList → aFill place cells parts = some res → ∃ res', Instr.fill place' cells' parts' = some res' ∧ VRs β res res'.toList := by
  intro parts parts' h
  induction h with
  | nil => intro cells res cells' hc hf; simp [aFill] at hf; subst hf; exact ⟨cells', rfl, hc⟩
  | cons i a v l l' hv hs ih =>
    intro cells res cells' hc hf
    unfold aFill at hf
    split at hf
    · cases hf
    · rename_i off size hpl
      split at hf
      · rename_i hsz
        split at hf
        · rename_i cells2 hw
          have hvc := hv.cells
          obtain ⟨g1, g2⟩ := VRs.splice (ws := []) hc hvc hw
          have hsz' : v.cells.size = size := by rw [← hv.cells']; exact hsz
          unfold Instr.fill
          rw [hp _ _ hpl]
          simp only
          rw [if_neg (by simp at g2; simp [hsz']; omega)]
          refine ih ?_ hf
          rw [← Array.foldl_toList, Array.toList_zipIdx]
          rw [splice_list off v.cells.toList 0 cells' (by simpa using g2)]
          simpa using g1
        · cases hf
      · cases hf

theorem zeros_cells {zero : List AVal} {zero' : Array Value} (hz : VRs β zero zero'.toList) : ∀ n, VRs β (zeros zero n) (List.replicate n zero'.toList).flatten
  | 0 => .nil
  | n + 1 => by rw [List.replicate_succ, List.flatten_cons]; exact hz.append (zeros_cells hz n)

def placeOf (types : TypeId → Option TInfo) (f : Field) : Nat × Nat := (f.offset, match types f.type with | some i => i.size | none => 0)

include T in
theorem places_run : ∀ (fs : List Field), fs.all (fun f => (types f.type).isSome) = true → (fs.mapM (fun f => do pure (f.offset, ← sizeOf f.type) : Field → Sem (Nat × Nat))).run P w = .ok (fs.map (placeOf types)) w
  | [], _ => rfl
  | f :: fs, h => by
    simp only [List.all_cons, Bool.and_eq_true] at h
    obtain ⟨h1, h2⟩ := h
    obtain ⟨i, hi⟩ := Option.isSome_iff_exists.1 h1
    simp only [List.mapM_cons, Sem.run_bind, T.run_sizeOf hi, Result.andThen_ok, Sem.run_pure, places_run fs h2, List.map_cons, placeOf, hi]

theorem places_get {fs : List Field} {i : Nat} {x : Nat × Nat} (h : fieldPlaces types fs i = some x) : (fs.map (placeOf types))[i]? = some x := by
  unfold fieldPlaces at h
  split at h
  · cases h
  · rename_i f hf
    split at h
    · rename_i j hj
      cases h
      simp [hf, placeOf, hj]
    · cases h

include T in
theorem build_sound {t : TypeId} {parts : List (Nat × AVal)} {parts' : List (Nat × Value)} (hp : PartsR β parts parts') {v : AVal} (h : aBuild types t parts = some v) :
    ∃ v', (Instr.build t parts'.toArray).run P w = .ok v' w ∧ VR β v v' := by
  unfold aBuild at h
  split at h
  · cases h
  · rename_i i hi
    obtain ⟨z, hz, hzc, _⟩ := T.run_zero hi w
    have hzr : VRs β i.zero.cells z.cells.toList := (ofConst_VR hzc).cells
    have hu := T.run_underlying hi w
    split at h
    · rename_i fs hd
      rw [hd] at hu
      split at h
      · rename_i hall
        split at h
        · rename_i l hf
          split at h
          · rename_i h1
            cases h
            have hpl : ∃ pl : Array (Nat × Nat), (fs.mapM fun f => do pure (f.offset, ← sizeOf f.type) : Sem (Array (Nat × Nat))).run P w = .ok pl w ∧ ∀ i x, fieldPlaces types fs.toList i = some x → pl[i]? = some x := by
              refine ⟨(fs.toList.map (placeOf types)).toArray, ?_, fun i x hx => by simpa using places_get hx⟩
              rw [Array.mapM_eq_mapM_toList]
              simp only [Sem.run_map, places_run T w fs.toList hall, Result.andThen_ok]
            obtain ⟨pl, q1, q2⟩ := hpl
            obtain ⟨res', r1, r2⟩ := fill_sound q2 hp hzr hf
            refine ⟨.agg res', ?_, .agg _ _ r2 h1⟩
            simp only [Instr.build, Sem.run_bind, hz, Result.andThen_ok, hu, q1]
            simp only [r1]
            rfl
          · cases h
        · cases h
      · cases h
    · rename_i n e hd
      rw [hd] at hu
      split at h
      · rename_i ei hei
        split at h
        · rename_i l hf
          split at h
          · rename_i h1
            cases h
            obtain ⟨res', r1, r2⟩ := fill_sound (place' := fun i => some (i * ei.size, ei.size)) (fun i x hx => hx) hp hzr hf
            refine ⟨.agg res', ?_, .agg _ _ r2 h1⟩
            simp only [Instr.build, Sem.run_bind, hz, Result.andThen_ok, hu, T.run_sizeOf hei]
            simp only [r1]
            rfl
          · cases h
        · cases h
      · cases h
    · cases h

/-! ### Parts, indexes -/

theorem readCells_spec {vs l : List AVal} {off n : Nat} (h : readCells vs off n = some l) : l = (vs.drop off).take n ∧ l.length = n := by
  unfold readCells at h
  simp only at h
  split at h
  · rename_i hl; cases h; exact ⟨rfl, hl⟩
  · cases h

theorem all_drop_take {p : AVal → Bool} {vs : List AVal} (h : vs.all p = true) (off n : Nat) : ((vs.drop off).take n).all p = true := by
  rw [List.all_eq_true] at h ⊢
  exact fun x hx => h x (List.mem_of_mem_drop (List.mem_of_mem_take hx))

include T in
theorem part_sound {t : TypeId} {i : TInfo} (hi : types t = some i) {cs : List AVal} {cs' : Array Value} (hc : VRs β cs cs'.toList) (h1 : cs.all AVal.one = true) {off : Nat} {v : AVal} (h : partOf i cs off = some v) :
    ∃ v', (part t cs' off).run P w = .ok v' w ∧ VR β v v' := by
  unfold partOf at h
  split at h
  · rename_i ha
    cases hr : readCells cs off i.size with
    | none => simp [hr] at h
    | some l =>
      simp [hr] at h
      obtain ⟨rfl, hl⟩ := readCells_spec hr
      cases h
      refine ⟨.agg (cs'.extract off (off + i.size)), ?_, .agg _ _ ?_ (all_drop_take h1 _ _)⟩
      · simp only [part, Sem.run_bind, T.run_isAgg hi, Result.andThen_ok, ha, if_true, T.run_sizeOf hi, Sem.run_pure]
      · have e : (cs'.extract off (off + i.size)).toList = (cs'.toList.drop off).take i.size := by
          rw [Array.toList_extract, List.extract_eq_take_drop]; congr 1; omega
        rw [e]
        exact (hc.drop off).take i.size
  · rename_i ha
    obtain ⟨v', hv, hr⟩ := hc.get h
    exact ⟨v', T.run_part_one w hi (by simpa using ha) (by simpa using hv), hr⟩

theorem OptR.of {fr : AFrame} {a : Act} (hF : FrR β fr a.tmps) {o : Option Operand} {r : Option AVal} (h : (match o with | none => some none | some o => (fr.get o).map some) = some r) : OptR β r (o.map a.eval) := by
  cases o with
  | none => cases h; trivial
  | some x =>
    simp only at h
    cases hx : fr.get x with
    | none => simp [hx] at h
    | some v => simp [hx] at h; subst h; exact hF.eval hx

theorem getAll_R {fr : AFrame} {a : Act} (hF : FrR β fr a.tmps) : ∀ {xs : List Operand} {l : List AVal}, getAll fr xs = some l → VRs β l (xs.map a.eval)
  | [], l, h => by cases h; exact .nil
  | x :: xs, l, h => by
    unfold getAll at h
    split at h
    · rename_i v vs hv hvs
      cases h
      exact .cons _ _ _ _ (hF.eval hv) (getAll_R hF hvs)
    · cases h

theorem byte_data (s : ByteArray) (n : Nat) : s[n]? = s.data.toList[n]? := by
  by_cases h : n < s.size
  · rw [ByteArray.getElem?_lt' s n h]
    rw [List.getElem?_eq_getElem (by simpa [size_data] using h)]
    rfl
  · rw [ByteArray.getElem?_ge' s n h, List.getElem?_eq_none (by rw [size_data]; omega)]

theorem two_of {x y : AVal} {l : List Value} (h : VRs β [x, y] l) : ∃ x' y', l = [x', y'] ∧ VR β x x' ∧ VR β y y' := by
  cases h with | cons _ x' _ l hx hl =>
  cases hl with | cons _ y' _ l hy hl =>
  cases hl
  exact ⟨x', y', rfl, hx, hy⟩

set_option maxHeartbeats 1000000 in
include T in
/-- What a pure operation answers, the model answers; the world is as it was. -/
theorem pure_sound {fr : AFrame} {a : Act} (hF : FrR β fr a.tmps) (o : Oper) {v : AVal} (h : aPure types fr o.op = some v) :
    ∃ v', (execOp a.eval o).run P w = .ok (.value v') w ∧ VR β v v' := by
  obtain ⟨dst, op, ty, pos, after, guard⟩ := o
  simp only at h
  unfold aPure at h
  split at h
  -- move, assign
  · exact ⟨_, rfl, hF.eval h⟩
  · exact ⟨_, rfl, hF.eval h⟩
  -- pick
  · rename_i c x y
    split at h
    · rename_i hc
      have := hF.eval hc
      cases e : a.eval c <;> rw [e] at this <;> cases this
      exact ⟨a.eval x, by simp [execOp, e, asBool], hF.eval h⟩
    · rename_i hc
      have := hF.eval hc
      cases e : a.eval c <;> rw [e] at this <;> cases this
      exact ⟨a.eval y, by simp [execOp, e, asBool], hF.eval h⟩
    · cases h
  -- nilCheck
  · rename_i x
    split at h
    · rename_i b o hx
      have := hF.eval hx
      cases h
      refine ⟨a.eval x, ?_, this⟩
      cases e : a.eval x <;> rw [e] at this <;> cases this
      simp [execOp, e]
    · rename_i t v hx
      have := hF.eval hx
      cases h
      refine ⟨a.eval x, ?_, this⟩
      cases e : a.eval x <;> rw [e] at this <;> cases this
      simp [execOp, e]
    · rename_i f c d hx
      have := hF.eval hx
      cases h
      refine ⟨a.eval x, ?_, this⟩
      cases e : a.eval x <;> rw [e] at this <;> cases this
      simp [execOp, e]
    · cases h
  -- binOp
  · rename_i op t x y yt
    split at h
    · rename_i u v hu hv
      split at h
      · rename_i hn
        obtain ⟨v', q1, q2⟩ := bin_sound T w (hF.eval hu) (hF.eval hv) h x y hn
        exact ⟨v', by simp only [execOp, Sem.run_bind]; simp only [Sem.run_bind] at q1; rw [q1]; rfl, q2⟩
      · cases h
    · cases h
  -- unOp
  · rename_i op t x
    split at h
    · rename_i u hu
      obtain ⟨v', q1, q2⟩ := un_sound (P := P) w (hF.eval hu) h
      exact ⟨v', by simp [execOp, q1], q2⟩
    · cases h
  -- convert
  · rename_i src dst x
    split at h
    · rename_i si di k n hs hd hx
      split at h
      · rename_i k1 k2 e1 e2
        cases h
        have := hF.eval hx
        cases e : a.eval x <;> rw [e] at this <;> cases this
        have u1 := T.run_underlying hs w
        have u2 := T.run_underlying hd w
        rw [e1] at u1; rw [e2] at u2
        exact ⟨_, by simp [execOp, e, convert, u1, u2, Conv.intToInt], .int _ _⟩
      · cases h
    · rename_i si di s hs hd hx
      split at h
      · rename_i e1 e2
        cases h
        have := hF.eval hx
        cases e : a.eval x <;> rw [e] at this <;> cases this
        have u1 := T.run_underlying hs w
        have u2 := T.run_underlying hd w
        rw [e1] at u1; rw [e2] at u2
        exact ⟨_, by simp [execOp, e, convert, u1, u2], .str _⟩
      · cases h
    · cases h
  -- makeInterface
  · rename_i t x
    split at h
    · rename_i i u hi hx
      have u1 := T.run_underlying hi w
      split at h
      · cases h
      · rename_i hne
        cases h
        refine ⟨.iface t (a.eval x), ?_, .iface _ _ _ (hF.eval hx)⟩
        simp only [execOp, Instr.makeInterface, Sem.run_bind, u1, Result.andThen_ok]
        rfl
    · cases h
  -- makeFunc
  · rename_i f first captured
    split at h
    · rename_i l m hl hm
      cases h
      exact ⟨_, rfl, .func _ _ _ _ _ (by simpa using getAll_R hF hl) (by simpa using getAll_R hF hm)⟩
    · cases h
  -- slice
  · rename_i t x lo hi mx
    split at h
    · cases h
    · rename_i u hu
      split at h
      · rename_i l hh m h1 h2 h3
        obtain ⟨v', q1, q2⟩ := slice_sound T w (hF.eval hu) (OptR.of hF h1) (OptR.of hF h2) (OptR.of hF h3) h
        exact ⟨v', by simp [execOp, q1], q2⟩
      · cases h
  -- fieldAddr
  · rename_i s x f
    split at h
    · rename_i i b off hi hx
      split at h
      · rename_i fs hd
        split at h
        · rename_i fd hfd
          split at h
          · rename_i fi hfi
            split at h
            · cases h
            · rename_i hz
              cases h
              have := hF.eval hx
              have u1 := T.run_underlying hi w
              rw [hd] at u1
              cases e : a.eval x <;> rw [e] at this <;> cases this
              rename_i c base n hb
              refine ⟨.pointer (some ⟨c, base + (off + fd.offset), none⟩), ?_, .ptr _ _ c base n hb⟩
              simp only [execOp, Instr.fieldAt, Sem.run_bind, u1, Result.andThen_ok]
              rw [hfd]
              simp only [e, Instr.sureAddr, fieldPlace, Sem.run_bind, Sem.run_pure, Result.andThen_ok, T.run_sizeOf hfi, Sem.run_ite, hz, if_false]
              simp only [Addr.add]
              split
              · rename_i h0; simp [h0]
              · simp [Nat.add_assoc]
          · cases h
        · cases h
      · cases h
    · cases h
  -- field
  · rename_i t x f
    split at h
    · rename_i i cs hi hx
      split at h
      · rename_i fs hd
        split at h
        · rename_i fd hfd
          split at h
          · rename_i fi hfi
            have := hF.eval hx
            have u1 := T.run_underlying hi w
            rw [hd] at u1
            cases e : a.eval x <;> rw [e] at this <;> cases this
            rename_i cs' h1 hcs
            obtain ⟨v', q1, q2⟩ := part_sound T w hfi hcs h1 h
            refine ⟨v', ?_, q2⟩
            simp only [execOp, Instr.field, Sem.run_bind, u1, Result.andThen_ok]
            rw [hfd]
            simp [e, asAgg, q1]
          · cases h
        · cases h
      · cases h
    · cases h
  -- indexAddr
  · rename_i t x ix
    split at h
    · rename_i i b off len cap sz ex k n hi hx hix
      split at h
      · rename_i e hd
        split at h
        · rename_i ei hei
          split at h
          · rename_i hc
            obtain ⟨hsz, h0, hlt⟩ := hc
            cases h
            have r2 := hF.eval hix
            have u1 := T.run_underlying hi w
            rw [hd] at u1
            obtain ⟨c, base, m, o, cap', e1, hb, ho, hcap, hex, hn, hl⟩ := (hF.eval hx).slice_inv
            have e2 := r2.int_inv
            have ho' : o = base + off := by
              rcases ho with ho | ho
              · exact ho
              · omega
            refine ⟨.pointer (some ⟨c, base + (off + n.toNat * sz), none⟩), ?_, .ptr _ _ c base m hb⟩
            simp only [execOp, Instr.indexAt, e1, e2, asIntOf, Sem.run_bind, Sem.run_pure, Result.andThen_ok, u1]
            simp only [h0, hlt, and_self, if_true, Sem.run_bind, T.run_sizeOf hei, Result.andThen_ok, Sem.run_pure, hsz]
            simp only [Addr.add, ho']
            split
            · rename_i h0; simp [h0]
            · simp [Nat.add_assoc]
          · cases h
        · cases h
      · cases h
    · rename_i i b off k n hi hx hix
      split at h
      · rename_i len e hd
        split at h
        · rename_i ei hei
          split at h
          · rename_i hc
            obtain ⟨h0, hlt⟩ := hc
            cases h
            have r1 := hF.eval hx
            have r2 := hF.eval hix
            have u1 := T.run_underlying hi w
            rw [hd] at u1
            cases e1 : a.eval x <;> rw [e1] at r1 <;> cases r1
            cases e2 : a.eval ix <;> rw [e2] at r2 <;> cases r2
            rename_i c base m hb
            refine ⟨.pointer (some ⟨c, base + (off + n.toNat * ei.size), none⟩), ?_, .ptr _ _ c base m hb⟩
            simp only [execOp, Instr.indexAt, e1, e2, asIntOf, Sem.run_bind, Sem.run_pure, Result.andThen_ok, u1, Instr.sureAddr]
            simp only [h0, hlt, and_self, if_true, Sem.run_bind, T.run_sizeOf hei, Result.andThen_ok, Sem.run_pure]
            simp only [Addr.add]
            split
            · rename_i h0; simp [h0]
            · simp [Nat.add_assoc]
          · cases h
        · cases h
      · cases h
    · cases h
  -- index
  · rename_i t x ix
    split at h
    · rename_i i s k n hi hx hix
      split at h
      · rename_i hd
        split at h
        · rename_i h0
          split at h
          · rename_i c hc
            cases h
            have r1 := hF.eval hx
            have r2 := hF.eval hix
            have u1 := T.run_underlying hi w
            rw [hd] at u1
            cases e1 : a.eval x <;> rw [e1] at r1 <;> cases r1
            cases e2 : a.eval ix <;> rw [e2] at r2 <;> cases r2
            rename_i b
            rw [← byte_data] at hc
            refine ⟨.int .u8 c.toNat, ?_, .int _ _⟩
            simp only [execOp, Instr.index, e1, e2, asIntOf, Sem.run_bind, Sem.run_pure, Result.andThen_ok, u1, h0, if_true, hc]
          · cases h
        · cases h
      · cases h
    · rename_i i cs k n hi hx hix
      split at h
      · rename_i len e hd
        split at h
        · rename_i ei hei
          split at h
          · rename_i hc
            have r1 := hF.eval hx
            have r2 := hF.eval hix
            have u1 := T.run_underlying hi w
            rw [hd] at u1
            cases e1 : a.eval x <;> rw [e1] at r1 <;> cases r1
            cases e2 : a.eval ix <;> rw [e2] at r2 <;> cases r2
            rename_i cs' h1 hcs
            obtain ⟨v', q1, q2⟩ := part_sound T w hei hcs h1 h
            refine ⟨v', ?_, q2⟩
            simp only [execOp, Instr.index, e1, e2, asIntOf, Sem.run_bind, Sem.run_pure, Result.andThen_ok, u1, hc, and_self, if_true, T.run_sizeOf hei, q1]
          · cases h
        · cases h
      · cases h
    · cases h
  -- extract
  · rename_i t ix
    split at h
    · rename_i cs hx
      have r1 := hF.eval hx
      cases e1 : a.eval t <;> rw [e1] at r1 <;> cases r1
      rename_i cs' hcs
      obtain ⟨v', hv, hr⟩ := hcs.get h
      refine ⟨v', ?_, hr⟩
      have hv' : cs'[ix]? = some v' := by simpa using hv
      simp [execOp, Instr.extract, e1, hv']
    · cases h
  -- build
  · rename_i t ps
    split at h
    · rename_i l hl
      obtain ⟨v', q1, q2⟩ := build_sound T w (getParts_R hF hl) h
      refine ⟨v', ?_, q2⟩
      have e : (ps.map fun (p : Nat × Operand) => (p.1, a.eval p.2)) = (ps.toList.map fun p => (p.1, a.eval p.2)).toArray := by rw [← Array.toList_map, Array.toArray_toList]
      simp only [execOp]
      rw [show (ps.map fun (x : Nat × Operand) => match x with | (i, x) => (i, a.eval x)) = (ps.map fun (p : Nat × Operand) => (p.1, a.eval p.2)) from rfl, e]
      simp [q1]
    · cases h
  -- typeAssert
  · rename_i x xt as ok
    split at h
    · rename_i i t u hi hx
      have u1 := T.run_underlying hi w
      have r1 := hF.eval hx
      split at h
      · cases h
      · rename_i hne
        split at h
        · rename_i ht
          subst ht
          cases h
          cases e1 : a.eval x <;> rw [e1] at r1 <;> cases r1
          rename_i u' hu'
          refine ⟨if ok then .tuple #[u', .bool true] else u', ?_, ?_⟩
          · simp only [execOp, Instr.typeAssert, Sem.run_bind, u1, Result.andThen_ok, e1]
            cases hd : i.desc <;> first
              | (exact absurd hd (hne _))
              | (cases ok <;> simp)
          · cases ok
            · exact hu'
            · exact .tuple _ _ (.cons _ _ _ _ hu' (.cons _ _ _ _ (.bool _) .nil))
        · cases h
    · cases h
  -- len
  · rename_i args argTypes
    split at h
    · rename_i x t hargs ht
      have ea : args = #[x] := by rw [← Array.toArray_toList (xs := args), hargs]
      subst ea
      split at h
      · rename_i i s hi hx
        split at h
        · rename_i hd
          cases h
          have u1 := T.run_underlying hi w
          rw [hd] at u1
          have r1 := hF.eval hx
          cases e1 : a.eval x <;> rw [e1] at r1 <;> cases r1
          rename_i b
          refine ⟨.int .i64 b.size, ?_, by rw [size_data]; exact .int _ _⟩
          simp [execOp, resolve, invoke, builtin, Builtin.len_, ht, e1, u1, goInt]
        · cases h
      · rename_i i s hi hx
        split at h
        · rename_i hd
          have u1 := T.run_underlying hi w
          rw [hd] at u1
          have r1 := hF.eval hx
          obtain ⟨hok, hv⟩ := r1.sym_inv
          cases hq : s.ask .len with
          | none => rw [hq] at h; cases h
          | some r =>
            rw [hq] at h
            cases h
            obtain ⟨q1, q2⟩ := Sym.ask_ok hok hq
            generalize s.val = sv at hv q1
            cases sv with
            | int k n => cases q1
            | str l =>
              cases e1 : a.eval x <;> rw [e1] at hv <;> cases hv
              rename_i b
              refine ⟨.int .i64 b.size, ?_, SRes.back q2 ?_⟩
              · simp [execOp, resolve, invoke, builtin, Builtin.len_, ht, e1, u1, goInt]
              · simp only [qEval, Option.some.injEq] at q1
                rw [← q1, size_data]
                exact .int _ _
        · cases h
      · rename_i i b off n cap sz ex hi hx
        split at h
        · rename_i e hd
          cases h
          have u1 := T.run_underlying hi w
          rw [hd] at u1
          have r1 := hF.eval hx
          cases e1 : a.eval x <;> rw [e1] at r1 <;> cases r1
          refine ⟨.int .i64 n, ?_, .int _ _⟩
          simp [execOp, resolve, invoke, builtin, Builtin.len_, ht, e1, u1, goInt]
        · cases h
      · rename_i i hi hx
        split at h
        · rename_i e hd
          cases h
          have u1 := T.run_underlying hi w
          rw [hd] at u1
          have r1 := hF.eval hx
          cases e1 : a.eval x <;> rw [e1] at r1 <;> cases r1
          refine ⟨.int .i64 0, ?_, .int _ _⟩
          simp [execOp, resolve, invoke, builtin, Builtin.len_, ht, e1, u1, goInt]
        · cases h
      · rename_i i hi hx
        split at h
        · rename_i e1 e2 hd
          cases h
          have u1 := T.run_underlying hi w
          rw [hd] at u1
          have r1 := hF.eval hx
          cases e1 : a.eval x <;> rw [e1] at r1 <;> cases r1
          refine ⟨.int .i64 0, ?_, .int _ _⟩
          simp [execOp, resolve, invoke, builtin, Builtin.len_, ht, e1, u1, goInt]
        · cases h
      · cases h
    · cases h
  -- min
  · rename_i args argTypes
    split at h
    · rename_i k x l y hargs
      split at h
      · rename_i hk
        subst hk
        cases h
        have r := getAll_R hF hargs
        obtain ⟨x', y', e1, e2, e3⟩ := two_of r
        have ea : args.map a.eval = #[.int k x, .int k y] := by
          have : (args.map a.eval).toList = [x', y'] := by simpa using e1
          rw [← Array.toArray_toList (xs := args.map a.eval), this, e2.int_inv, e3.int_inv]
        refine ⟨_, ?_, .int _ _⟩
        simp only [execOp, resolve, ea, Sem.run_bind, Sem.run_pure, Result.andThen_ok, invoke, builtin, run_min_int2]
      · cases h
    · cases h
  -- max
  · rename_i args argTypes
    split at h
    · rename_i k x l y hargs
      split at h
      · rename_i hk
        subst hk
        cases h
        have r := getAll_R hF hargs
        obtain ⟨x', y', e1, e2, e3⟩ := two_of r
        have ea : args.map a.eval = #[.int k x, .int k y] := by
          have : (args.map a.eval).toList = [x', y'] := by simpa using e1
          rw [← Array.toArray_toList (xs := args.map a.eval), this, e2.int_inv, e3.int_inv]
        refine ⟨_, ?_, .int _ _⟩
        simp only [execOp, resolve, ea, Sem.run_bind, Sem.run_pure, Result.andThen_ok, invoke, builtin, run_max_int2]
      · cases h
    · cases h
  -- cap
  · rename_i args argTypes
    split at h
    · rename_i x t hargs ht
      have ea : args = #[x] := by rw [← Array.toArray_toList (xs := args), hargs]
      subst ea
      split at h
      · rename_i i b off n cap sz hi hx
        split at h
        · rename_i e hd
          cases h
          have u1 := T.run_underlying hi w
          rw [hd] at u1
          obtain ⟨c, base, m, o, cap', e1, hb, ho, hcap, hex, hn, hl⟩ := (hF.eval hx).slice_inv
          refine ⟨.int .i64 cap, ?_, .int _ _⟩
          simp [execOp, resolve, invoke, builtin, Builtin.cap_, ht, e1, u1, goInt, hex rfl]
        · cases h
      · rename_i i hi hx
        split at h
        · rename_i e hd
          cases h
          have u1 := T.run_underlying hi w
          rw [hd] at u1
          have r1 := hF.eval hx
          cases e1 : a.eval x <;> rw [e1] at r1 <;> cases r1
          refine ⟨.int .i64 0, ?_, .int _ _⟩
          simp [execOp, resolve, invoke, builtin, Builtin.cap_, ht, e1, u1, goInt]
        · cases h
      · cases h
    · cases h
  · cases h

end Go.Sx
