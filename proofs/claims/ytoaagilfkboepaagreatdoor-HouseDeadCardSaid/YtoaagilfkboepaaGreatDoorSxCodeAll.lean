/-
  SX, part 21: code, functions, calls: what the interpreter answers, the model answers.
-/
import Derived.Test.YtoaagilfkboepaaGreatDoorSxDrawTwo
import Derived.LoopN
set_option linter.unusedSimpArgs false
set_option linter.unusedVariables false
namespace Go.Sx

/-- Each region that draws is in order. -/
def okCode : Code → Bool
  | .region _ ops draw => !draw || okDraw ops.toList
  | .seq a b => okCode a && okCode b
  | .cond _ a b => okCode a && okCode b
  | .block _ b => okCode b
  | .loop b => okCode b
  | _ => true

def exitOf : AExit → Exit
  | .normal => .normal
  | .exit id => .exit id
  | .ret => .ret

section
variable {P : Program} {B : Base} {cfg : Cfg} {call : CallFn}

theorem code_sound (Ty : TyOk P cfg.types) (hC : CallOk P B call) (hmix : P.follows .mixedOrders = true) (fuel : Nat) : ∀ (c : Code), okCode c = true → ∀ (fr : AFrame) (H : AHeap) (x : AExit) (fr' : AFrame) (H' : AHeap) (β : Emb) (a : Act) (w : World) (Q : Exit → Act → World → Prop),
    aCode cfg call fuel c fr H = some (x, fr', H') → B.At β H w → FrR β fr a.tmps → Rel β H w.heap →
    (∀ β' a' w', a'.defers = a.defers → FrR β' fr' a'.tmps → Rel β' H' w'.heap → Ext H.next β β' H H' w w' → Q (exitOf x) a' w') → c.wp P Q a w := by
  intro c
  induction c with
  | skip => intro _ fr H x fr' H' β a w Q h hB hF hR hQ; cases h; exact wp_skip (hQ β a w rfl hF hR (Ext.refl _ _ _ _))
  | label l => intro _ fr H x fr' H' β a w Q h hB hF hR hQ; cases h; exact wp_label (hQ β a w rfl hF hR (Ext.refl _ _ _ _))
  | exit id => intro _ fr H x fr' H' β a w Q h hB hF hR hQ; cases h; exact wp_exit (hQ β a w rfl hF hR (Ext.refl _ _ _ _))
  | ret => intro _ fr H x fr' H' β a w Q h hB hF hR hQ; cases h; exact wp_ret (hQ β a w rfl hF hR (Ext.refl _ _ _ _))
  | region id ops draw =>
    intro hok fr H x fr' H' β a w Q h hB hF hR hQ
    unfold aCode at h
    split at h
    · rename_i f1 H1 hr
      cases h
      cases draw with
      | true => exact region_draw_sound Ty hC hB hmix (by simpa [okCode] using hok) hr hF hR hQ
      | false => exact region_seq_sound Ty hC hB hr hF hR hQ
    · cases h
  | seq c1 c2 ih1 ih2 =>
    intro hok fr H x fr' H' β a w Q h hB hF hR hQ
    simp only [okCode, Bool.and_eq_true] at hok
    unfold aCode at h
    split at h
    · rename_i f1 H1 h1
      refine wp_seq (ih1 hok.1 fr H .normal f1 H1 β a w _ h1 hB hF hR fun β1 a1 w1 d1 hF1 hR1 hE1 => ?_)
      refine ih2 hok.2 f1 H1 x fr' H' β1 a1 w1 Q h (hB.ext hE1 hR.dom) hF1 hR1 fun β2 a2 w2 d2 hF2 hR2 hE2 => ?_
      exact hQ β2 a2 w2 (d2.trans d1) hF2 hR2 (hE1.trans hE2 hE1.next hR.dom)
    · rename_i hne
      refine wp_seq (ih1 hok.1 fr H x fr' H' β a w _ h hB hF hR fun β1 a1 w1 d1 hF1 hR1 hE1 => ?_)
      have := hQ β1 a1 w1 d1 hF1 hR1 hE1
      cases x with
      | normal => exact absurd h (hne _ _)
      | exit id => exact this
      | ret => exact this
  | cond o c1 c2 ih1 ih2 =>
    intro hok fr H x fr' H' β a w Q h hB hF hR hQ
    simp only [okCode, Bool.and_eq_true] at hok
    unfold aCode at h
    split at h
    · rename_i hc
      have := hF.eval hc
      generalize hq : a.eval o = q at this
      cases this
      exact wp_cond_true hq (ih1 hok.1 _ _ _ _ _ β a w Q h hB hF hR hQ)
    · rename_i hc
      have := hF.eval hc
      generalize hq : a.eval o = q at this
      cases this
      exact wp_cond_false hq (ih2 hok.2 _ _ _ _ _ β a w Q h hB hF hR hQ)
    · cases h
  | block id b ih =>
    intro hok fr H x fr' H' β a w Q h hB hF hR hQ
    simp only [okCode] at hok
    unfold aCode at h
    split at h
    · rename_i i f1 H1 h1
      refine wp_block (ih hok fr H (.exit i) f1 H1 β a w _ h1 hB hF hR fun β1 a1 w1 d1 hF1 hR1 hE1 => ?_)
      simp only [exitOf, Exit.inBlock]
      split at h
      · rename_i e
        cases h
        rw [if_pos e]
        exact hQ β1 a1 w1 d1 hF1 hR1 hE1
      · rename_i e
        cases h
        rw [if_neg e]
        exact hQ β1 a1 w1 d1 hF1 hR1 hE1
    · rename_i hne
      refine wp_block (ih hok fr H x fr' H' β a w _ h hB hF hR fun β1 a1 w1 d1 hF1 hR1 hE1 => ?_)
      have := hQ β1 a1 w1 d1 hF1 hR1 hE1
      cases x with
      | normal => exact this
      | exit i => exact absurd h (hne _ _ _)
      | ret => exact this
  | loop b ih =>
    intro hok fr H x fr' H' β a w Q h hB hF hR hQ
    simp only [okCode] at hok
    unfold aCode at h
    refine wp_loop_rounds fuel ?_
    have key : ∀ (n : Nat) (fr : AFrame) (H : AHeap) (β : Emb) (a : Act) (w : World), aLoop (aCode cfg call fuel b) n fr H = some (x, fr', H') → B.At β H w → FrR β fr a.tmps → Rel β H w.heap →
        (∀ β' a' w', a'.defers = a.defers → FrR β' fr' a'.tmps → Rel β' H' w'.heap → Ext H.next β β' H H' w w' → Q (exitOf x) a' w') → Code.rounds P b Q n a w := by
      intro n
      induction n with
      | zero => intro fr H β a w h; cases h
      | succ n ihn =>
        intro fr H β a w h hB hF hR hQ
        rw [rounds_succ]
        unfold aLoop at h
        split at h
        · rename_i f1 H1 h1
          refine ih hok fr H .normal f1 H1 β a w _ h1 hB hF hR fun β1 a1 w1 d1 hF1 hR1 hE1 => ?_
          refine ihn f1 H1 β1 a1 w1 h (hB.ext hE1 hR.dom) hF1 hR1 fun β2 a2 w2 d2 hF2 hR2 hE2 => ?_
          exact hQ β2 a2 w2 (d2.trans d1) hF2 hR2 (hE1.trans hE2 hE1.next hR.dom)
        · rename_i hne
          refine ih hok fr H x fr' H' β a w _ h hB hF hR fun β1 a1 w1 d1 hF1 hR1 hE1 => ?_
          have := hQ β1 a1 w1 d1 hF1 hR1 hE1
          cases x with
          | normal => exact absurd h (hne _ _)
          | exit id => exact this
          | ret => exact this
    exact key fuel fr H β a w h hB hF hR hQ
  | rangeFunc f ps b1 b2 => intro _ fr H x fr' H' β a w Q h; cases h
  | scope b => intro _ fr H x fr' H' β a w Q h; cases h
  | goto l => intro _ fr H x fr' H' β a w Q h; cases h
  | refuse s => intro _ fr H x fr' H' β a w Q h; cases h

/-! ### Results -/

/-- One result, as the model takes it. -/
def resultRun (tmps : Array Value) : ResultVar → Sem Value
  | .tmp t => pure (tmps.getD t undef)
  | .cell a t => do loadVar t (← asAddr (tmps.getD a undef))

theorem results_run (fn : Func) (tmps : Array Value) : results fn tmps = (do
    let vs ← (List.toArray <$> fn.results.toList.mapM (resultRun tmps))
    pure (if h : vs.size = 1 then vs[0] else .tuple vs)) := by
  unfold results
  rw [← Array.mapM_eq_mapM_toList]
  rfl

variable {β : Emb} {w : World}

theorem result_sound (Ty : TyOk P cfg.types) {fr : AFrame} {tmps : Array Value} (hF : FrR β fr tmps) {H : AHeap} (hR : Rel β H w.heap) {r : ResultVar} {v : AVal} (h : aResult cfg.types fr H r = some v) : ∃ v', (resultRun tmps r).run P w = .ok v' w ∧ VR β v v' := by
  have getD : ∀ {t : Tmp} {x : AVal}, fr[t]? = some x → ∃ v', tmps.getD t undef = v' ∧ VR β x v' := by
    intro t x hx
    obtain ⟨u, hu, hr⟩ := VRs.get hF hx
    have : tmps[t]? = some u := by simpa using hu
    exact ⟨u, by rw [Array.getD_eq_getD_getElem?, this]; rfl, hr⟩
  unfold aResult at h
  split at h
  · rename_i t
    obtain ⟨u, e, hr⟩ := getD h
    exact ⟨u, by simp [resultRun, e], hr⟩
  · rename_i a t
    split at h
    · rename_i i b off hi ha
      split at h
      · rename_i vs ro ty hb
        obtain ⟨u, e, hr⟩ := getD ha
        obtain ⟨v', ad, q0, q1, q2⟩ := load_sound Ty w hR hi hr hb h
        subst q0
        exact ⟨v', by simp [resultRun, e, asAddr, q1], q2⟩
      · cases h
    · cases h

theorem results_sound (Ty : TyOk P cfg.types) {fr : AFrame} {tmps : Array Value} (hF : FrR β fr tmps) {H : AHeap} (hR : Rel β H w.heap) : ∀ {rs : List ResultVar} {vs : List AVal}, aResults cfg.types fr H rs = some vs →
    ∃ us : List Value, (rs.mapM (resultRun tmps)).run P w = .ok us w ∧ VRs β vs us
  | [], vs, h => by cases h; exact ⟨[], by simp, .nil⟩
  | r :: rs, vs, h => by
    unfold aResults at h
    split at h
    · rename_i v l hv hl
      cases h
      obtain ⟨u, q1, q2⟩ := result_sound Ty hF hR hv
      obtain ⟨us, q3, q4⟩ := results_sound Ty hF hR hl
      exact ⟨u :: us, by simp [q1, q3], .cons _ _ _ _ q2 q4⟩
    · cases h

/-! ### Functions -/

theorem enter_FrR {fn : Func} {args : List AVal} {vs : Array Value} (h : VRs β args vs.toList) : FrR β (aEnter fn args) (vs ++ Array.replicate (fn.ntmps - vs.size) undef) := by
  unfold FrR aEnter
  rw [Array.toList_append, Array.toList_replicate]
  have hl : args.length = vs.size := by rw [VRs.length h]; simp
  rw [hl]
  refine h.append ?_
  generalize fn.ntmps - vs.size = n
  induction n with
  | zero => exact .nil
  | succ n ih => exact .cons _ _ _ _ (VR.undef β) ih

/-- What a call's end tells. -/
def Ends (β : Emb) (H : AHeap) (w : World) (v : AVal) (H' : AHeap) : Ending → World → Prop := fun e w' =>
  ∃ β' v', e = .returned v' ∧ VR β' v v' ∧ Rel β' H' w'.heap ∧ Ext H.next β β' H H' w w'

theorem body_sound (Ty : TyOk P cfg.types) (hC : CallOk P B call) (hmix : P.follows .mixedOrders = true) {fuel : Nat} {f : FuncId} {fn : Func} (hf : P.funcs[f]? = some fn) (hok : ∀ c, fn.body = some c → okCode c = true) {args : List AVal} {H : AHeap} {v : AVal} {H' : AHeap}
    (h : aBody cfg call fuel fn args H = some (v, H')) {vs : Array Value} (hB : B.At β H w) (hR : Rel β H w.heap) (hv : VRs β args vs.toList) : Calls P f vs w (Ends β H w v H') := by
  unfold aBody at h
  split at h
  · cases h
  · rename_i c hb
    split at h
    · cases h
    · rename_i x fr' H1 hne hc
      refine calls_of_wp hf hb ?_
      refine code_sound Ty hC hmix fuel c (hok c hb) _ H x fr' H1 β _ w _ hc hB (enter_FrR hv) hR fun β' a' w' hd hF' hR' hE => ?_
      have hpost : ∃ v', (results fn a'.tmps).run P w' = .ok v' w' ∧ VR β' v v' ∧ H1 = H' := by
        split at h
        · rename_i u hu
          cases h
          obtain ⟨us, q1, q2⟩ := results_sound Ty hF' hR' hu
          cases q2 with
          | cons _ v' _ vs' h1 h2 =>
            cases h2
            refine ⟨v', ?_, h1, rfl⟩
            rw [results_run]
            simp [q1]
        · rename_i us' hus hu
          cases h
          obtain ⟨us, q1, q2⟩ := results_sound Ty hF' hR' hu
          refine ⟨.tuple us.toArray, ?_, .tuple _ _ (by simpa using q2), rfl⟩
          rw [results_run]
          have hl : us.length ≠ 1 := by
            intro e
            rw [← VRs.length q2] at e
            match us', e with
            | [u], _ => exact hus u rfl
          simp [q1, hl]
        · cases h
      obtain ⟨v', e1, e2, rfl⟩ := hpost
      cases x with
      | normal => exact ⟨hd, v', e1, β', v', rfl, e2, hR', hE⟩
      | ret => exact ⟨hd, v', e1, β', v', rfl, e2, hR', hE⟩
      | exit id => exact absurd rfl (hne _)
    · cases h

/-- The tables tell the program; what is answered by a Lean function is answered so. -/
structure CfgOk (P : Program) (B : Base) (cfg : Cfg) : Prop where
  types : TyOk P cfg.types
  mixed : P.follows .mixedOrders = true
  funcs : ∀ f fn, cfg.funcs f = some fn → P.funcs[f]? = some fn ∧ (∀ (vs : Array Value) (w : World), (callFunc f vs).run P w = .ok (.enter f vs) w) ∧ ∀ c, fn.body = some c → okCode c = true
  prims : CallOk P B fun f args H => match cfg.prims f with
    | some p => p args H
    | none => none

theorem call_sound (hc : CfgOk P B cfg) (fuel : Nat) : ∀ d, CallOk P B (aCall cfg fuel d)
  | 0 => fun f args H v H' h => by cases h
  | d + 1 => fun f args H v H' h => by
    unfold aCall at h
    split at h
    · rename_i p hp
      have := hc.prims f args H v H' (by simp only [hp]; exact h)
      exact this
    · split at h
      · rename_i fn hfn
        obtain ⟨h1, h2, h3⟩ := hc.funcs f fn hfn
        exact ⟨h2, fun β w vs hB hR hv => body_sound hc.types (call_sound hc fuel d) hc.mixed h1 h3 h hB hR hv⟩
      · cases h

end
end Go.Sx

/-
  SX, part 22: the tables: what is asked of each type and of each function, row by row.
-/
namespace Go.Sx

/-- Something of each entry of a tree; 'f' tells the entry's number. -/
def Tr.Every {α : Type} (p : Nat → α → Prop) : Tr α → (Nat → Nat) → Prop
  | .leaf, _ => True
  | .node l v r, f => (∀ x, v = some x → p (f 0) x) ∧ l.Every p (fun m => f (2 * m + 1)) ∧ r.Every p (fun m => f (2 * m + 2))

theorem Tr.every_get {α : Type} {p : Nat → α → Prop} : ∀ {t : Tr α} {f : Nat → Nat}, t.Every p f → ∀ {n : Nat} {x : α}, t.get n = some x → p (f n) x
  | .leaf, _, _, _, _, h => by cases h
  | .node l v r, f, he, n, x, h => by
    obtain ⟨h1, h2, h3⟩ := he
    unfold Tr.get at h
    split at h
    · rename_i e; subst e; exact h1 x h
    · split at h
      · have := Tr.every_get h2 h
        rwa [show 2 * (n / 2) + 1 = n from by omega] at this
      · have := Tr.every_get h3 h
        rwa [show 2 * (n / 2 - 1) + 2 = n from by omega] at this

theorem every_some {α : Type} {p : α → Prop} {x : α} (h : p x) : ∀ y, some x = some y → p y := fun _ e => by cases e; exact h
theorem every_none {α : Type} {p : α → Prop} : ∀ y, (none : Option α) = some y → p y := fun _ e => by cases e

/-- Are a type's sizes, its zero value, its methods as the row tells them? -/
def rowOk (ti : TypeInfo) (i : TInfo) : Bool :=
  ti.size == i.size && ti.bytes == i.bytes &&
  (match ti.zero with
    | some z => (match ofConst z with
      | some a => AVal.same a i.zero
      | none => false) && z.cells.size == i.size
    | none => false) &&
  i.methods.all fun m => match ti.methods.find? (·.name == m.1) with
    | some s => s.path.isEmpty && (match s.func with
      | some (f, p) => f == m.2.1 && p == m.2.2
      | none => false)
    | none => false

theorem info_of {P : Program} {t : TypeId} {ti : TypeInfo} (h : P.types[t]? = some ti) : P.info? t = some ti := by
  have hlt : t < P.types.size := (Array.getElem?_eq_some_iff.1 h).1
  simp only [Tables.info?, hlt, if_true]
  exact h

theorem findMethod_mem {name : String} {f : FuncId} {p : Bool} : ∀ {ms : List (String × FuncId × Bool)}, findMethod ms name = some (f, p) → (name, f, p) ∈ ms
  | [], h => by cases h
  | (n, g, q) :: ms, h => by
    unfold findMethod at h
    split at h
    · rename_i e
      cases h
      have : n = name := by simpa using e
      subst this
      simp
    · exact List.mem_cons_of_mem _ (findMethod_mem h)

/-- A row of the table of types. -/
structure TyRow (P : Program) (t : TypeId) (i : TInfo) : Prop where
  get : ∃ ti, P.types[t]? = some ti ∧ rowOk ti i = true
  desc : P.underlying t = some i.desc
  plain : i.plain = true → P.stoodInHeld t = false ∧ P.eqGuardType P.depth t = false

theorem tyOk_of {P : Program} {tree : Tr TInfo} (h : tree.Every (TyRow P) id) : TyOk P tree.get := by
  have row : ∀ t i, tree.get t = some i → TyRow P t i := fun t i ht => Tr.every_get h ht
  refine ⟨fun t i ht => (row t i ht).desc, fun t i ht => ?_, fun t i ht => ?_, fun t i ht => (row t i ht).plain, fun t i name f p ht hm => ?_⟩
  · obtain ⟨ti, h1, h2⟩ := (row t i ht).get
    simp only [rowOk, Bool.and_eq_true, beq_iff_eq] at h2
    exact ⟨ti, info_of h1, h2.1.1.1, h2.1.1.2⟩
  · obtain ⟨ti, h1, h2⟩ := (row t i ht).get
    simp only [rowOk, Bool.and_eq_true, beq_iff_eq] at h2
    have h3 := h2.1.2
    split at h3
    · rename_i z hz
      rw [Bool.and_eq_true, beq_iff_eq] at h3
      obtain ⟨h4, h5⟩ := h3
      split at h4
      · rename_i a ha
        rw [same_eq h4] at ha
        exact ⟨ti, z, info_of h1, hz, ha, h5⟩
      · cases h4
    · cases h3
  · obtain ⟨ti, h1, h2⟩ := (row t i ht).get
    simp only [rowOk, Bool.and_eq_true, beq_iff_eq] at h2
    have h3 := List.all_eq_true.1 h2.2 _ (findMethod_mem hm)
    simp only at h3
    split at h3
    · rename_i s hs
      rw [Bool.and_eq_true] at h3
      obtain ⟨h4, h5⟩ := h3
      split at h5
      · rename_i g q hg
        rw [Bool.and_eq_true, beq_iff_eq, beq_iff_eq] at h5
        obtain ⟨rfl, rfl⟩ := h5
        exact ⟨ti, s, info_of h1, hs, by simpa using h4, hg⟩
      · cases h5
    · cases h3

/-- A row of the table of functions. -/
structure FnRow (P : Program) (f : FuncId) (fn : Func) : Prop where
  get : P.funcs[f]? = some fn
  enter : ∀ (vs : Array Value) (w : World), (callFunc f vs).run P w = .ok (.enter f vs) w
  ok : (match fn.body with | some c => okCode c | none => true) = true

/-- What is answered by Lean functions: none; one, and others. -/
def PrimOk (P : Program) (B : Base) (f : FuncId) (p : List AVal → AHeap → Option (AVal × AHeap)) : Prop :=
  (∀ (vs : Array Value) (w : World), (callFunc f vs).run P w = .ok (.enter f vs) w) ∧
  ∀ args H v H', p args H = some (v, H') → ∀ (β : Emb) (w : World) (vs : Array Value), B.At β H w → Rel β H w.heap → VRs β args vs.toList → Calls P f vs w (Ends β H w v H')

theorem cfgOk_of {P : Program} {B : Base} {ty : Tr TInfo} {fns : Tr Func} {prims : Tr (List AVal → AHeap → Option (AVal × AHeap))} (hty : ty.Every (TyRow P) id) (hmix : P.follows .mixedOrders = true) (hf : fns.Every (FnRow P) id) (hp : prims.Every (PrimOk P B) id) :
    CfgOk P B { types := ty.get, funcs := fns.get, prims := prims.get } := by
  refine ⟨tyOk_of hty, hmix, fun f fn h => ?_, fun f args H v H' h => ?_⟩
  · have r := Tr.every_get hf h
    refine ⟨r.get, r.enter, fun c hc => ?_⟩
    have := r.ok
    rw [hc] at this
    exact this
  · simp only at h
    split at h
    · rename_i p hq
      obtain ⟨h1, h2⟩ := Tr.every_get hp hq
      exact ⟨h1, h2 args H v H' h⟩
    · cases h

end Go.Sx
