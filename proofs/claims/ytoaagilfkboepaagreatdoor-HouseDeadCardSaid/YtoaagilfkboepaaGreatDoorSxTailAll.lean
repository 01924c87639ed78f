/-
  SX, part 28: strings.HasPrefix of a bang, and strings.Split at a blank, of texts of which some answers are known.
-/
import Derived.Test.YtoaagilfkboepaaGreatDoorSxPrimAll
set_option linter.unusedSimpArgs false
set_option linter.unusedVariables false
namespace Go.Sx

def pHasBangAt : List AVal → AHeap → Option (AVal × AHeap)
  | [.str s, .str [33]], H => if s.length ≤ 2 ^ 40 then some (.bool (s.head? == some 33), H) else none
  | [.sym s, .str [33]], H => match askBool s (.pred 2), askBool s .short with
    | some b, some true => some (.bool b, H)
    | _, _ => none
  | _, _ => none

def pSplitSym (s : Sym) (H : AHeap) : Option (AVal × AHeap) :=
  match askBool s .short, askBool s (.pred 1) with
  | some true, some true => some (.slice H.next 0 1 1 1 true, (H.bump 1).set H.next (.cells [.sym s] false none))
  | some true, _ => match askBool s (.pred 3), s.ask (.drop 2) with
    | some true, some (.sym t) => match askBool t (.pred 1) with
      | some true => some (.slice H.next 0 2 2 1 true, (H.bump 1).set H.next (.cells [.str [33], .sym t] false none))
      | _ => none
    | _, _ => none
  | _, _ => none

def pSplitAt2 : List AVal → AHeap → Option (AVal × AHeap)
  | [.sym s, .str [32]], H => pSplitSym s H
  | a, H => pSplitAt a H

section
variable {P : Program} {B : Base} {f : FuncId} {β : Emb}

theorem prim_hasBang (he : ∀ (vs : Array Value) (w : World), (callFunc f vs).run P w = .ok (.enter f vs) w)
    (hc : ∀ (s : ByteArray) (w : World), s.size ≤ 9223372036854775807 → Calls P f #[.string s, .string ⟨#[33]⟩] w fun e w' => e = .returned (.bool (s.data.toList.head? == some 33)) ∧ w' = w) : PrimOk P B f pHasBangAt := by
  refine ⟨he, fun args H v H' h β w vs hB hR hv => ?_⟩
  unfold pHasBangAt at h
  split at h
  · split at h
    · rename_i hl
      cases h
      obtain ⟨u, x, rfl, hu, hx⟩ := hv.two
      obtain ⟨s, rfl, hs⟩ := hu.str_inv
      obtain ⟨p, rfl, hp⟩ := hx.str_inv
      have := bytes_one hp
      subst this
      have hsz : s.size = s.data.toList.length := Array.length_toList.symm
      refine (hc s w (by rw [hsz, hs]; omega)).mono ?_
      rintro e w' ⟨rfl, rfl⟩
      rw [hs]
      exact ends_same hR (.bool _)
    · cases h
  · split at h
    · rename_i b hq1 hq2
      cases h
      obtain ⟨u, x, rfl, hu, hx⟩ := hv.two
      obtain ⟨p, rfl, hp⟩ := hx.str_inv
      have := bytes_one hp
      subst this
      obtain ⟨s, rfl, hs, hsz⟩ := sym_short hu hq2
      have h1 := askBool_ok hu.sym_inv.1 hq1
      rw [hs] at h1
      simp only [qEval, Option.some.injEq, AVal.bool.injEq] at h1
      refine (hc s w (by omega)).mono ?_
      rintro e w' ⟨rfl, rfl⟩
      rw [h1]
      exact ends_same hR (.bool _)
    · cases h
  · cases h

theorem vals_objR {w : World} {us : List AVal} {ls : List ByteArray} {T : TypeId} (h1 : us.all AVal.one = true) (hr : VRs β us (ls.map Value.string)) : ∀ β', β.le β' → ∀ hp : Array Obj, hp[w.heap.size]? = some (.cells (ls.map Value.string).toArray T) →
    ObjR β' (.cells us false none) (w.heap.size, 0, us.length) hp := by
  intro β' hle hp h
  have hl : us.length = ls.length := by rw [hr.length]; simp
  refine ⟨_, _, _, h, by simp [hl], by simp, ?_, fun _ i hi hc => ?_, fun _ _ e => by cases e⟩
  · intro i a ha
    obtain ⟨v, hv, hva⟩ := (hr.mono hle).get ha
    refine ⟨List.all_eq_true.1 h1 a (List.mem_of_getElem? ha), v, ?_, hva⟩
    simpa using hv
  · simp at hc

theorem noBlank {L : List UInt8} (h : (L.all fun c => c != 32) = true) : (32 : UInt8) ∉ L := fun hm => by
  have := List.all_eq_true.1 h 32 hm
  simp at this

theorem prim_split2 {g : Nat} (hm : ∀ (β : Emb) (H : AHeap) (w : World), B.At β H w → ∃ m, w.cell? ⟨g, 0, none⟩ = some (.int .i64 m)) (T : TypeId) (he : ∀ (vs : Array Value) (w : World), (callFunc f vs).run P w = .ok (.enter f vs) w)
    (hc : ∀ (s sep : ByteArray) (m : Int) (w : World), s.size < 4294967281 → w.cell? ⟨g, 0, none⟩ = some (.int .i64 m) → 1 ≤ sep.size →
      Calls P f #[.string s, .string sep] w fun e w' => e = .returned (.slice (some ⟨w.heap.size, 0, none⟩) (Lib.countB s sep + 1) (Lib.countB s sep + 1)) ∧ w' = w.alloc (.cells ((Lib.splitB sep 0 (Lib.countB s sep) s).map Value.string).toArray T)) :
    PrimOk P B f pSplitAt2 := by
  refine ⟨he, fun args H v H' h β w vs hB hR hv => ?_⟩
  unfold pSplitAt2 at h
  split at h
  · rename_i s
    unfold pSplitSym at h
    have key : ∀ (us : List AVal) (L : List UInt8), us.all AVal.one = true → (∀ b : ByteArray, b.data.toList = L → s.val = .str b.data.toList → s.Ok → ∃ ls : List ByteArray, ls.map (fun x => x.data.toList) = splitC 32 L ∧ VRs β us (ls.map Value.string)) →
        askBool s .short = some true → s.val = .str L → us.length = L.count 32 + 1 →
        some (AVal.slice H.next 0 us.length us.length 1 true, (H.bump 1).set H.next (.cells us false none)) = some (v, H') → Calls P f vs w (Ends β H w v H') := by
      intro us L hone hls hq hL hn hh
      cases hh
      obtain ⟨u, x, rfl, hu, hx⟩ := hv.two
      obtain ⟨sep, rfl, hsep⟩ := hx.str_inv
      have := bytes_one hsep
      subst this
      obtain ⟨b, rfl, hb, hsz⟩ := sym_short hu hq
      have hbL : b.data.toList = L := by rw [hL] at hb; injection hb with e; exact e.symm
      obtain ⟨m, hmm⟩ := hm _ _ _ hB
      obtain ⟨ls, h1, h2⟩ := hls b hbL hb hu.sym_inv.1
      have hcnt : Lib.countB b ⟨#[32]⟩ = L.count 32 := by
        rw [← hbL, ← Lib.count_one]
      refine (hc b ⟨#[32]⟩ m w (by omega) hmm (by simp [ByteArray.size])).mono ?_
      rintro e w' ⟨rfl, rfl⟩
      have hsp : (Lib.splitB ⟨#[32]⟩ 0 (Lib.countB b ⟨#[32]⟩) b).map (fun s => s.data.toList) = splitC 32 L := by
        rw [← splitK_eq (Lib.countB b ⟨#[32]⟩) L (by omega), ← hbL]
        exact Lib.splitB_data ⟨#[32]⟩ 0 (Lib.countB b ⟨#[32]⟩) b
      have hinj : ∀ {p q : List ByteArray}, p.map (fun x => x.data.toList) = q.map (fun x => x.data.toList) → p = q := by
        intro p q hpq
        refine (List.map_inj_right fun x y hxy => ?_).1 hpq
        obtain ⟨⟨x⟩⟩ := x
        obtain ⟨⟨y⟩⟩ := y
        simp only at hxy
        subst hxy
        rfl
      have hlist : Lib.splitB ⟨#[32]⟩ 0 (Lib.countB b ⟨#[32]⟩) b = ls := hinj (hsp.trans h1.symm)
      rw [hlist]
      refine ends_alloc hR (vals_objR hone h2) ?_
      rw [hcnt, ← hn]
      exact .slice H.next 0 _ _ 1 true w.heap.size 0 _ 0 _ (Emb.upd_same _ _ _) (.inl rfl) (Nat.le_refl _) (fun _ => rfl) (by omega) (Nat.le_refl _)
    split at h
    · rename_i hq1 hq2
      obtain ⟨hok, -⟩ : s.Ok ∧ True := by
        obtain ⟨u, x, rfl, hu, hx⟩ := hv.two
        exact ⟨hu.sym_inv.1, trivial⟩
      have h1 := askBool_ok hok hq2
      have h0 := askBool_ok hok hq1
      generalize hsv : s.val = sv at h0 h1
      cases sv with
      | int k n => cases h0
      | str L =>
        simp only [qEval, Option.some.injEq, AVal.bool.injEq] at h1
        have hnb := noBlank h1
        refine key [.sym s] L rfl (fun b hb hbs hso => ⟨[b], by simp [splitC_none hnb, hb], .cons _ _ _ _ (.sym _ _ hso (by rw [hbs]; exact .str b)) .nil⟩) hq1 hsv (by simp [List.count_eq_zero.2 hnb]) h
    · rename_i hq1 hq2
      split at h
      · rename_i t hq3 hq4
        split at h
        · rename_i hq5
          obtain ⟨hok, -⟩ : s.Ok ∧ True := by
            obtain ⟨u, x, rfl, hu, hx⟩ := hv.two
            exact ⟨hu.sym_inv.1, trivial⟩
          have h3 := askBool_ok hok hq3
          obtain ⟨h4, h4'⟩ := Sym.ask_ok hok hq4
          have h4o : t.Ok := by unfold SRes.Ok at h4'; exact h4'
          have h5 := askBool_ok h4o hq5
          have h0 := askBool_ok hok hq1
          generalize hsv : s.val = sv at h0 h3 h4
          cases sv with
          | int k n => cases h0
          | str L =>
            simp only [qEval, Option.some.injEq, AVal.bool.injEq, beq_iff_eq] at h3
            simp only [qEval, SRes.toAVal, AVal.conc, Option.some.injEq] at h4
            generalize htv : t.val = tv at h4 h5
            cases tv with
            | int k n => cases h4
            | str T' =>
              simp only [Scal.toAVal, AVal.str.injEq] at h4
              simp only [qEval, Option.some.injEq, AVal.bool.injEq] at h5
              have hnb := noBlank h5
              have hL : L = [33] ++ 32 :: T' := by
                rw [← List.take_append_drop 2 L, h3, h4]
                rfl
              have hc33 : (32 : UInt8) ∉ [(33 : UInt8)] := by decide
              refine key [.str [33], .sym t] L rfl (fun b hb hbs hso => ⟨[⟨#[33]⟩, ⟨T'.toArray⟩], ?_, ?_⟩) hq1 hsv ?_ h
              · rw [hL, splitC_at hc33, splitC_none hnb]
                simp
              · exact .cons _ _ _ _ (.str ⟨#[33]⟩) (.cons _ _ _ _ (.sym _ _ h4o (by rw [htv]; exact .str ⟨T'.toArray⟩)) .nil)
              · rw [hL]
                simp [List.count_cons, List.count_eq_zero.2 hnb]
        · cases h
      · cases h
    · cases h
  · exact (prim_split hm T he hc).2 _ H v H' h β w vs hB hR hv

end
end Go.Sx

/-
  SX, part 29: the end of a body, run from a frame that is given: what the interpreter answers, the model answers.
-/
namespace Go.Sx
def aTail (cfg : Cfg) (call : CallFn) (fuel : Nat) (fn : Func) (c : Code) (fr : AFrame) (H : AHeap) : Option (AVal × AHeap) :=
  match aCode cfg call fuel c fr H with
  | some (.exit _, _, _) => none
  | some (_, fr', H') => match aResults cfg.types fr' H' fn.results.toList with
    | some [v] => some (v, H')
    | _ => none
  | none => none
/-- The code behind a body's first n parts. -/
def tailOf : Nat → Code → Code
  | 0, c => c
  | n + 1, .seq _ c => tailOf n c
  | _ + 1, c => c
section
variable {P : Program} {B : Base} {β : Emb} {w : World}
theorem tail_sound {cfg : Cfg} (hc : CfgOk P B cfg) {fuel d : Nat} {fn : Func} {c : Code} (hok : okCode c = true) {fr : AFrame} {H : AHeap} {v : AVal} {H' : AHeap}
    (h : aTail cfg (aCall cfg fuel d) fuel fn c fr H = some (v, H')) {a : Act} (hd : a.defers = []) (hB : B.At β H w) (hF : FrR β fr a.tmps) (hR : Rel β H w.heap) {R : Ending → World → Prop}
    (hQ : ∀ e w', Ends β H w v H' e w' → R e w') : c.wp P (bodyPost P fn R) a w := by
  unfold aTail at h
  split at h
  · cases h
  · rename_i x fr' H1 hne hcode
    refine code_sound hc.types (call_sound hc fuel d) hc.mixed fuel c hok fr H x fr' H1 β a w _ hcode hB hF hR fun β' a' w' hd' hF' hR' hE => ?_
    split at h
    · rename_i u hu
      cases h
      obtain ⟨us, q1, q2⟩ := results_sound hc.types hF' hR' hu
      have hpost : ∃ v', (results fn a'.tmps).run P w' = .ok v' w' ∧ VR β' v v' := by
        cases q2 with
        | cons _ v' _ vs' h1 h2 =>
          cases h2
          refine ⟨v', ?_, h1⟩
          rw [results_run]
          simp [q1]
      obtain ⟨v', e1, e2⟩ := hpost
      have hend := hQ (.returned v') w' ⟨β', v', rfl, e2, hR', hE⟩
      cases x with
      | normal => exact ⟨hd'.trans hd, v', e1, hend⟩
      | ret => exact ⟨hd'.trans hd, v', e1, hend⟩
      | exit id => exact (hne _ rfl).elim
    · cases h
  · cases h
end
end Go.Sx

/-
  SX, part 30: the first parts of a body, run from a frame that is given; what comes behind them is left.
-/
namespace Go.Sx
def aPre (cfg : Cfg) (call : CallFn) (fuel : Nat) : Nat → Code → AFrame → AHeap → Option (AFrame × AHeap)
  | 0, _, fr, H => some (fr, H)
  | n + 1, .seq a r, fr, H => match aCode cfg call fuel a fr H with
    | some (.normal, fr', H') => aPre cfg call fuel n r fr' H'
    | _ => none
  | _ + 1, _, _, _ => none
section
variable {P : Program} {B : Base}
theorem pre_sound {cfg : Cfg} (hc : CfgOk P B cfg) {fuel d : Nat} : ∀ (n : Nat) (c : Code) (fr : AFrame) (H : AHeap) (fr' : AFrame) (H' : AHeap) (β : Emb) (a : Act) (w : World) (Q : Exit → Act → World → Prop),
    aPre cfg (aCall cfg fuel d) fuel n c fr H = some (fr', H') → okCode c = true → B.At β H w → FrR β fr a.tmps → Rel β H w.heap →
    (∀ β' a' w', a'.defers = a.defers → FrR β' fr' a'.tmps → Rel β' H' w'.heap → Ext H.next β β' H H' w w' → B.At β' H' w' → (tailOf n c).wp P Q a' w') → c.wp P Q a w
  | 0, c, fr, H, fr', H', β, a, w, Q, h, hok, hB, hF, hR, hQ => by
    cases h
    exact hQ β a w rfl hF hR (Ext.refl _ _ _ _) hB
  | n + 1, .seq c r, fr, H, fr', H', β, a, w, Q, h, hok, hB, hF, hR, hQ => by
    simp only [okCode, Bool.and_eq_true] at hok
    unfold aPre at h
    split at h
    · rename_i f1 H1 h1
      refine wp_seq (code_sound hc.types (call_sound hc fuel d) hc.mixed fuel c hok.1 fr H .normal f1 H1 β a w _ h1 hB hF hR fun β1 a1 w1 d1 hF1 hR1 hE1 => ?_)
      refine pre_sound hc n r f1 H1 fr' H' β1 a1 w1 Q h hok.2 (hB.ext hE1 hR.dom) hF1 hR1 fun β2 a2 w2 d2 hF2 hR2 hE2 hB2 => ?_
      exact hQ β2 a2 w2 (d2.trans d1) hF2 hR2 (hE1.trans hE2 hE1.next hR.dom) hB2
    · cases h
  | n + 1, .skip, _, _, _, _, _, _, _, _, h, _, _, _, _, _ => by cases h
  | n + 1, .label _, _, _, _, _, _, _, _, _, h, _, _, _, _, _ => by cases h
  | n + 1, .exit _, _, _, _, _, _, _, _, _, h, _, _, _, _, _ => by cases h
  | n + 1, .ret, _, _, _, _, _, _, _, _, h, _, _, _, _, _ => by cases h
  | n + 1, .region .., _, _, _, _, _, _, _, _, h, _, _, _, _, _ => by cases h
  | n + 1, .cond .., _, _, _, _, _, _, _, _, h, _, _, _, _, _ => by cases h
  | n + 1, .block .., _, _, _, _, _, _, _, _, h, _, _, _, _, _ => by cases h
  | n + 1, .loop .., _, _, _, _, _, _, _, _, h, _, _, _, _, _ => by cases h
  | n + 1, .scope .., _, _, _, _, _, _, _, _, h, _, _, _, _, _ => by cases h
  | n + 1, .rangeFunc .., _, _, _, _, _, _, _, _, h, _, _, _, _, _ => by cases h
end
end Go.Sx
