/-
  SX, part 10: the operations that write: stores, maps.
-/
import Derived.Test.YtoaagilfkboepaaGreatDoorSxReadAll
set_option linter.unusedSimpArgs false
set_option linter.unusedVariables false
namespace Go.Sx

variable {P : Program} {types : TypeId → Option TInfo} (T : TyOk P types) {β : Emb} (w : World)

/-- What an operation that writes comes to. -/
def Wrote (β : Emb) (H : AHeap) (w : World) (r : Result Next) (v : AVal) (H' : AHeap) : Prop :=
  ∃ β' w' n v', r = .ok n w' ∧ (n = .value v' ∨ n = .skip ∧ v' = undef) ∧ VR β' v v' ∧ Rel β' H' w'.heap ∧ Ext H.next β β' H H' w w'

theorem VR.undef (β : Emb) : VR β (.tuple []) undef := .tuple _ _ .nil

theorem Wrote.change {H : AHeap} {w : World} (hR : Rel β H w.heap) {b : Nat} {x : Nat × Nat × Nat} (hβ : β b = some x) {o0 o : AObj} (hg : H.get b = some o0) {oc : Obj} {w' : World} (hw : w'.heap = w.heap.setIfInBounds x.1 oc)
    (ht : w'.tape = w.tape) (hos : w'.os = w.os) (hout : w'.output = w.output) (ho : ObjR β o x (w.heap.setIfInBounds x.1 oc)) {r : Result Next} {n : Next} {v : AVal} {v' : Value} (hr : r = .ok n w') (hn : n = .value v' ∨ n = .skip ∧ v' = undef) (hv : VR β v v') :
    Wrote β H w r v (H.set b o) :=
  ⟨β, w', n, v', hr, hn, hv, by rw [hw]; exact hR.change hβ hg ho, Ext.change hβ hg o hw ht hos hout⟩

theorem blk_lt {w : World} {c : Nat} {o : Obj} (h : w.heap[c]? = some o) : c < w.heap.size := (Array.getElem?_eq_some_iff.1 h).1

include T in
theorem store_sound {H : AHeap} (hR : Rel β H w.heap) {t : TypeId} {i : TInfo} (hi : types t = some i) {b off : Nat} {x' : Value} (hx : VR β (.ptr b off) x') {vs vs' : List AVal} {ty : Option (TypeId × Bool)} (hb : H.get b = some (.cells vs false ty))
    {v : AVal} {v' : Value} (hv : VR β v v') (hsz : v.cells.length = i.size) (h1 : v.cells.all AVal.one = true) (hw : writeCells vs off v.cells = some vs') :
    ∃ c base n cs' e fz, β b = some (c, base, n) ∧ (Instr.storeAt t x' v').run P w = .ok () { w with heap := w.heap.setIfInBounds c (.cells cs' e fz) } ∧ ObjR β (.cells vs' false ty) (c, base, n) (w.heap.setIfInBounds c (.cells cs' e fz)) := by
  obtain ⟨c, base, n, rfl, hβ⟩ := hx.ptr_inv
  obtain ⟨cs, e, fz, hh, hcs, hl, hc, hz⟩ := hR.obj b _ _ hb hβ
  simp only at hh hcs hl hc hz
  have hvc := hv.cells
  have hlen := hvc.length
  have hwl : off + v.cells.length ≤ vs.length := by
    unfold writeCells at hw
    split at hw
    · assumption
    · cases hw
  obtain ⟨cs', q1, q2⟩ := run_storeCells_of (P := P) c (base + off) e fz v'.cells.toList 0 cs w hh (by omega) (hvc.ones h1) (by rw [hcs]; exact hz.1 trivial)
  refine ⟨c, base, n, cs', e, fz, hβ, ?_, cs', e, fz, set_same (blk_lt hh), ?_, ?_, ?_, fun _ => hz.1 trivial, by rw [writeCells_len hw]; exact hz.2⟩
  · simp only [Instr.storeAt, Instr.sureAddr, Sem.run_bind, Sem.run_pure, Result.andThen_ok, storeVar, T.run_sizeOf hi, Sem.run_ite]
    rw [if_neg (by rw [← hsz, hv.cells']; simp)]
    simpa using q1
  · have := congrArg List.length q2
    simp at this hlen
    simp only
    omega
  · rw [writeCells_len hw]; exact hl
  · exact hc.write hvc h1 hw (by omega) (by simpa using q2)

/-! ### Maps -/

theorem EntriesR.append {es fs : List AEntry} {es' fs' : List MapEntry} (h : EntriesR β es es') (g : EntriesR β fs fs') : EntriesR β (es ++ fs) (es' ++ fs') := by
  induction es generalizing es' with
  | nil => simp only [EntriesR] at h; subst h; exact g
  | cons e es ih => obtain ⟨e', l', rfl, hr, hs⟩ := h; exact ⟨e', l' ++ fs', rfl, hr, ih hs⟩

theorem EntriesR.set {es : List AEntry} {es' : List MapEntry} (h : EntriesR β es es') {e : AEntry} {e' : MapEntry} (he : EntryR β e e') (i : Nat) : EntriesR β (es.set i e) (es'.set i e') := by
  induction es generalizing es' i with
  | nil => simp only [EntriesR] at h; subst h; exact rfl
  | cons x es ih =>
    obtain ⟨y, l', rfl, hr, hs⟩ := h
    cases i with
    | zero => exact ⟨e', l', rfl, he, hs⟩
    | succ i => exact ⟨y, l'.set i e', rfl, hr, ih hs i⟩

theorem EntriesR.erase {es : List AEntry} {es' : List MapEntry} (h : EntriesR β es es') (i : Nat) : EntriesR β (es.eraseIdx i) (es'.eraseIdx i) := by
  induction es generalizing es' i with
  | nil => simp only [EntriesR] at h; subst h; exact rfl
  | cons x es ih =>
    obtain ⟨y, l', rfl, hr, hs⟩ := h
    cases i with
    | zero => exact hs
    | succ i => exact ⟨y, l'.eraseIdx i, rfl, hr, ih hs i⟩

theorem modify_set (es' : Array MapEntry) (i : Nat) (f : MapEntry → MapEntry) {e : MapEntry} (he : es'[i]? = some e) : (es'.modify i f).toList = es'.toList.set i (f e) := by
  obtain ⟨hi, hv⟩ := Array.getElem?_eq_some_iff.1 he
  apply List.ext_getElem?
  intro j
  rw [Array.getElem?_toList, Array.getElem?_modify, List.getElem?_set, Array.getElem?_toList]
  by_cases hj : i = j
  · subst hj; simp [hi, hv]
  · simp [hj]

/-- Two values that stand for one scalar key are one value; so the key that stays is no question. -/
def scalarV : Value → Bool
  | .bool _ | .int _ _ | .string _ => true
  | _ => false

theorem sameBits_self (n : Nat) : ∀ (k : Value), scalarV k = true → Instr.sameBits n k k = true := by
  intro k h
  cases k <;> simp [scalarV] at h <;> simp [Instr.sameBits, beq_data]

theorem aEql_true {d : TypeDesc} {x y : AVal} {x' y' : Value} (hs : scalarDesc d = true) (hx : VR β x x') (hy : VR β y y') (h : aEql d x y = some true) : y' = x' ∧ scalarV x' = true := by
  unfold aEql at h
  split at h
  case h_1 => cases hx; cases hy; simp at h; subst h; exact ⟨rfl, rfl⟩
  case h_2 =>
    split at h
    · rename_i hk
      rw [hx.int_inv, hy.int_inv]
      simp at h
      subst hk; subst h
      exact ⟨rfl, rfl⟩
    · cases h
  case h_3 =>
    obtain ⟨p, rfl, hp⟩ := hx.str_inv
    obtain ⟨q, rfl, hq⟩ := hy.str_inv
    simp at h
    subst h
    refine ⟨?_, rfl⟩
    congr 1
    cases p; cases q
    simp at hp hq
    congr 1
    apply Array.ext'
    rw [hp, hq]
  case h_19 => cases h
  all_goals simp [scalarDesc] at hs

theorem VRs.det_fields {n : Nat} : ∀ (fs : List Field) (m : Nat) (xs ys : List AVal) (xs' ys' : List Value), VRs β xs xs' → VRs β ys ys' → aEqlFields types fs m xs ys = some true →
    ys' = xs' ∧ (xs'.zip ys').all (fun p => Instr.sameBits n p.1 p.2) = true := by
  intro fs
  induction fs with
  | nil =>
    intro m xs ys xs' ys' hx hy h
    unfold aEqlFields at h
    split at h
    · cases hx; cases hy; exact ⟨rfl, rfl⟩
    · simp_all
    · cases h
  | cons f fs ih =>
    intro m xs ys xs' ys' hx hy h
    cases xs with
    | nil => simp [aEqlFields] at h
    | cons a l =>
      cases ys with
      | nil => simp [aEqlFields] at h
      | cons c k =>
        cases hx with | cons _ a' _ l' ha hl =>
        cases hy with | cons _ c' _ k' hc hk =>
        simp only [aEqlFields] at h
        split at h
        · split at h
          · split at h
            · rename_i hs
              split at h
              · rename_i hq
                obtain ⟨e1, e2⟩ := aEql_true hs ha hc hq
                subst e1
                obtain ⟨e3, e4⟩ := ih (m + 1) l k l' k' hl hk h
                subst e3
                exact ⟨rfl, by simp only [List.zip_cons_cons, List.all_cons, e4, Bool.and_true]; exact sameBits_self n _ e2⟩
              · cases h
              · cases h
            · cases h
          · cases h
        · cases h

theorem keyStays {ki : TInfo} {k k0 : AVal} {k' k0' : Value} (hk : VR β k k') (hk0 : VR β k0 k0') (hok : keyOk types ki k = true) (h : aEqual types ki k k0 = some true) : (Instr.keyThatStays k0' k').run P w = .ok k' w := by
  have hb : Instr.sameBits 10000 k0' k' = true := by
    replace h := aEqual_conc hk hk0 h
    replace hok := keyOk_conc hk hok
    replace hk := hk.conc
    replace hk0 := hk0.conc
    generalize k.conc = k at *
    generalize k0.conc = k0 at *
    unfold aEqualC at h
    split at h
    · split at h
      · split at h
        · cases hk with | agg _ xs' hxs _ =>
          cases hk0 with | agg _ ys' hys _ =>
          obtain ⟨e1, e2⟩ := VRs.det_fields (n := 9999) _ 0 _ _ _ _ hxs hys h
          have e3 : ys' = xs' := Array.ext' e1
          subst e3
          show Instr.sameBits (9999 + 1) (.agg ys') (.agg ys') = true
          simp only [Instr.sameBits, beq_self_eq_true, Bool.true_and]
          exact e2
        · cases h
      · cases h
    · have hs : scalarDesc ki.desc = true := by
        unfold keyOkC at hok
        split at hok <;> first | (rename_i hd; rw [hd]; rfl) | skip
        · rename_i hd
          rw [hd] at h
          unfold aEql at h
          split at h <;> simp_all
        · simp at hok
      obtain ⟨e1, e2⟩ := aEql_true hs hk hk0 h
      subst e1
      exact sameBits_self _ _ e2
  simp [Instr.keyThatStays, hb]

theorem aFind_at {ki : TInfo} {k : AVal} : ∀ {es : List AEntry} {n j : Nat} {v : AVal}, aFind types ki k es n = some (some (j, v)) → ∃ e, n ≤ j ∧ es[j - n]? = some e ∧ e.val = v ∧ aEqual types ki k e.key = some true := by
  intro es
  induction es with
  | nil => intro n j v h; simp [aFind] at h
  | cons e es ih =>
    intro n j v h
    unfold aFind at h
    split at h
    · rename_i hq; cases h; exact ⟨e, Nat.le_refl _, by simp, rfl, hq⟩
    · obtain ⟨e', h1, h2, h3, h4⟩ := ih h
      refine ⟨e', by omega, ?_, h3, h4⟩
      rw [show j - n = (j - (n + 1)) + 1 from by omega]
      simpa using h2
    · cases h

end Go.Sx

/-
  SX, part 11: the operations that write maps.
-/
namespace Go.Sx

variable {P : Program} {types : TypeId → Option TInfo} (T : TyOk P types) {β : Emb} (w : World)

theorem run_getObj_map {w : World} {c : Nat} {es : Array MapEntry} {clock : Nat} (h : w.heap[c]? = some (.map es clock)) : (getObj c).run P w = .ok (.map es clock) w := by simp [getObj, Sem.run, h]

theorem run_setObj_map {w : World} {c : Nat} {es : Array MapEntry} {clock : Nat} (h : w.heap[c]? = some (.map es clock)) (o : Obj) : (setObj c o).run P w = .ok () { w with heap := w.heap.setIfInBounds c o } := by simp [setObj, Sem.run, h]

theorem setAt_R {es : List AEntry} {es' : Array MapEntry} (he : EntriesR β es es'.toList) {i : Nat} {e : AEntry} (hi : es[i]? = some e) {k v : AVal} {k' v' : Value} (hk : VR β k k') (hv : VR β v v') :
    EntriesR β (setAt es i k v) (es'.modify i fun e => { e with key := k', val := v' }).toList := by
  obtain ⟨e', h1, h2⟩ := he.get hi
  rw [modify_set es' i _ (by simpa using h1)]
  unfold setAt
  rw [hi]
  exact he.set (e := { e with key := k, val := v }) (e' := { e' with key := k', val := v' }) ⟨hk, hv, h2.2.2⟩ i

set_option maxHeartbeats 1000000 in
include T in
theorem mapUpdate_sound {H : AHeap} (hR : Rel β H w.heap) {t kt et : TypeId} {i ki : TInfo} (hi : types t = some i) (hd : i.desc = .map kt et) (hki : types kt = some ki) {b : Nat} {m' k' v' : Value} (hm : VR β (.map b) m') {k v : AVal} (hk : VR β k k') (hv : VR β v v')
    (hok : keyOk types ki k = true) {es : List AEntry} {clock : Nat} (hb : H.get b = some (.map es clock)) {r : Option (Nat × AVal)} (hf : aFind types ki k es 0 = some r) {o : AObj}
    (ho : o = match r with | some (j, _) => .map (setAt es j k v) clock | none => .map (es ++ [⟨k, v, clock⟩]) (clock + 1)) :
    ∃ c base n oc, β b = some (c, base, n) ∧ (Instr.mapUpdate t m' k' v').run P w = .ok () { w with heap := w.heap.setIfInBounds c oc } ∧ ObjR β o (c, base, n) (w.heap.setIfInBounds c oc) := by
  obtain ⟨c, base, n, rfl, hβ⟩ := hm.map_inv
  obtain ⟨es', hh, he⟩ := hR.obj b _ _ hb hβ
  simp only at hh
  have u1 := T.run_underlying hi w
  rw [hd] at u1
  obtain ⟨r', g1, g2⟩ := findKey_sound T w hki hk hok he hf
  have hgo := run_getObj_map (P := P) hh
  cases r with
  | none =>
    simp only [FoundR] at g2
    subst g2
    subst ho
    refine ⟨c, base, n, .map (es'.push { key := k', val := v', born := clock }) (clock + 1), hβ, ?_, es'.push { key := k', val := v', born := clock }, set_same (blk_lt hh), ?_⟩
    · simp only [Instr.mapUpdate, Sem.run_bind, u1, Result.andThen_ok, hgo, checkKey_sound T w hki hk hok, g1, run_setObj_map hh]
    · rw [Array.toList_push]
      exact he.append ⟨_, [], rfl, ⟨hk, hv, rfl⟩, rfl⟩
  | some p =>
    obtain ⟨j, u⟩ := p
    obtain ⟨v0', e', rfl, hvr, hj, _⟩ := g2
    subst ho
    obtain ⟨e, q1, q2, q3, q4⟩ := aFind_at hf
    simp at q2
    obtain ⟨e2, h1, h2⟩ := he.get q2
    have e3 : e2 = e' := by rw [h1] at hj; exact Option.some.inj hj
    subst e3
    have hst : (Instr.keyThatStays (((es'[j]?).map (·.key)).getD k') k').run P w = .ok k' w := by
      have : es'[j]? = some e2 := by simpa using h1
      rw [this]
      exact keyStays w hk h2.1 hok q4
    refine ⟨c, base, n, .map (es'.modify j fun e => { e with key := k', val := v' }) clock, hβ, ?_, es'.modify j fun e => { e with key := k', val := v' }, set_same (blk_lt hh), setAt_R he q2 hk hv⟩
    simp only [Instr.mapUpdate, Sem.run_bind, u1, Result.andThen_ok, hgo, checkKey_sound T w hki hk hok, g1, hst, run_setObj_map hh]

set_option maxHeartbeats 1000000 in
include T in
theorem mapEntry_sound {H : AHeap} (hR : Rel β H w.heap) {t kt et : TypeId} {i ki ei : TInfo} (hi : types t = some i) (hd : i.desc = .map kt et) (hki : types kt = some ki) (hei : types et = some ei) {b : Nat} {m' k' : Value} (hm : VR β (.map b) m') {k : AVal} (hk : VR β k k')
    (hok : keyOk types ki k = true) {es : List AEntry} {clock : Nat} (hb : H.get b = some (.map es clock)) {r : Option (Nat × AVal)} (hf : aFind types ki k es 0 = some r) {o : AObj} {res : AVal}
    (ho : match r with | some (j, v) => ∃ e, es[j]? = some e ∧ o = .map (setAt es j k v) clock ∧ res = .tuple [v, .int .i64 e.born] | none => o = .map (es ++ [⟨k, ei.zero, clock⟩]) (clock + 1) ∧ res = .tuple [ei.zero, .int .i64 clock]) :
    ∃ c base n oc res', β b = some (c, base, n) ∧ (Instr.mapEntry t m' k').run P w = .ok res' { w with heap := w.heap.setIfInBounds c oc } ∧ VR β res res' ∧ ObjR β o (c, base, n) (w.heap.setIfInBounds c oc) := by
  obtain ⟨c, base, n, rfl, hβ⟩ := hm.map_inv
  obtain ⟨es', hh, he⟩ := hR.obj b _ _ hb hβ
  simp only at hh
  have u1 := T.run_underlying hi w
  rw [hd] at u1
  obtain ⟨r', g1, g2⟩ := findKey_sound T w hki hk hok he hf
  have hgo := run_getObj_map (P := P) hh
  cases r with
  | none =>
    simp only [FoundR] at g2
    subst g2
    simp only at ho
    obtain ⟨rfl, rfl⟩ := ho
    obtain ⟨z, hz1, hz2, _⟩ := T.run_zero hei w
    refine ⟨c, base, n, .map (es'.push { key := k', val := z, born := clock }) (clock + 1), .tuple #[z, goInt clock], hβ, ?_, .tuple _ _ (.cons _ _ _ _ (ofConst_VR hz2) (.cons _ _ _ _ (.int _ _) .nil)), es'.push { key := k', val := z, born := clock }, set_same (blk_lt hh), ?_⟩
    · simp only [Instr.mapEntry, Sem.run_bind, u1, Result.andThen_ok, hgo, checkKey_sound T w hki hk hok, g1, hz1, run_setObj_map hh, Sem.run_pure]
    · rw [Array.toList_push]
      exact he.append ⟨_, [], rfl, ⟨hk, ofConst_VR hz2, rfl⟩, rfl⟩
  | some p =>
    obtain ⟨j, u⟩ := p
    obtain ⟨v0', e', rfl, hvr, hj, hval⟩ := g2
    simp only at ho
    obtain ⟨e, q2, rfl, rfl⟩ := ho
    obtain ⟨e1, _, q2', q3, q4⟩ := aFind_at hf
    simp at q2'
    rw [q2] at q2'; cases q2'
    obtain ⟨e2, h1, h2⟩ := he.get q2
    have e3 : e2 = e' := by rw [h1] at hj; exact Option.some.inj hj
    subst e3
    have hA : es'[j]? = some e2 := by simpa using h1
    have hst : (Instr.keyThatStays (((es'[j]?).map (·.key)).getD k') k').run P w = .ok k' w := by
      rw [hA]
      exact keyStays w hk h2.1 hok q4
    refine ⟨c, base, n, .map (es'.modify j fun e => { e with key := k' }) clock, .tuple #[v0', goInt e2.born], hβ, ?_, .tuple _ _ (.cons _ _ _ _ hvr (.cons _ _ _ _ (by rw [h2.2.2]; exact .int _ _) .nil)), es'.modify j fun e => { e with key := k' }, set_same (blk_lt hh), ?_⟩
    · simp only [Instr.mapEntry, Sem.run_bind, u1, Result.andThen_ok, hgo, checkKey_sound T w hki hk hok, g1, hst, run_setObj_map hh, Sem.run_pure]
      rw [hA]
      rfl
    · rw [modify_set es' j _ hA]
      unfold setAt
      rw [q2]
      refine he.set (e := { e with key := k, val := u }) (e' := { e2 with key := k' }) ⟨hk, ?_, h2.2.2⟩ j
      rw [← hval] at hvr
      exact hvr

theorem findIdx_R (n : Int) : ∀ {es : List AEntry} {es' : List MapEntry}, EntriesR β es es' → es.findIdx? (fun e => (e.born : Int) == n) = es'.findIdx? (fun e => (e.born : Int) == n)
  | [], _, h => by simp only [EntriesR] at h; subst h; rfl
  | e :: es, _, ⟨e', l', hl, hr, hs⟩ => by
    subst hl
    rw [List.findIdx?_cons, List.findIdx?_cons, hr.2.2, findIdx_R n hs]

theorem entryStore_sound {H : AHeap} (hR : Rel β H w.heap) {b : Nat} {m' s' v' : Value} (hm : VR β (.map b) m') {k : IntKind} {n : Int} (hs : VR β (.int k n) s') {v : AVal} (hv : VR β v v') (t : TypeId)
    {es : List AEntry} {clock : Nat} (hb : H.get b = some (.map es clock)) {j : Nat} (hj : es.findIdx? (fun e => (e.born : Int) == n) = some j) {e : AEntry} (he0 : es[j]? = some e) :
    ∃ c base x oc, β b = some (c, base, x) ∧ (Instr.entryStore t m' s' v').run P w = .ok () { w with heap := w.heap.setIfInBounds c oc } ∧ ObjR β (.map (es.set j { e with val := v }) clock) (c, base, x) (w.heap.setIfInBounds c oc) := by
  obtain ⟨c, base, x, rfl, hβ⟩ := hm.map_inv
  obtain ⟨es', hh, he⟩ := hR.obj b _ _ hb hβ
  simp only at hh
  have hgo := run_getObj_map (P := P) hh
  obtain ⟨e', h1, h2⟩ := he.get he0
  have hA : es'[j]? = some e' := by simpa using h1
  have hfi : es'.findIdx? (fun e => (e.born : Int) == n) = some j := by
    rw [← hj, findIdx_R n he]
    cases es'; simp
  refine ⟨c, base, x, .map (es'.modify j fun e => { e with val := v' }) clock, hβ, ?_, es'.modify j fun e => { e with val := v' }, set_same (blk_lt hh), ?_⟩
  · rw [hs.int_inv]
    simp only [Instr.entryStore, Sem.run_bind, hgo, Result.andThen_ok, asInt, asIntOf, Sem.run_pure, hfi, run_setObj_map hh]
  · rw [modify_set es' j _ hA]
    exact he.set (e := { e with val := v }) (e' := { e' with val := v' }) ⟨h2.1, hv, h2.2.2⟩ j

include T in
theorem delete_sound {H : AHeap} (hR : Rel β H w.heap) {t kt et : TypeId} {i ki : TInfo} (hi : types t = some i) (hd : i.desc = .map kt et) (hki : types kt = some ki) {b : Nat} {m' k' : Value} (hm : VR β (.map b) m') {k : AVal} (hk : VR β k k')
    (hok : keyOk types ki k = true) {es : List AEntry} {clock : Nat} (hb : H.get b = some (.map es clock)) {r : Option (Nat × AVal)} (hf : aFind types ki k es 0 = some r) (ty : TypeId) (ts : Array TypeId) (hts : ts[0]? = some t) :
    ∃ c base n oc, β b = some (c, base, n) ∧ (Builtin.delete_ ts ty #[m', k']).run P w = .ok (.tuple #[]) { w with heap := w.heap.setIfInBounds c oc } ∧
      ObjR β (.map (match r with | some (j, _) => es.eraseIdx j | none => es) clock) (c, base, n) (w.heap.setIfInBounds c oc) := by
  obtain ⟨c, base, n, rfl, hβ⟩ := hm.map_inv
  obtain ⟨es', hh, he⟩ := hR.obj b _ _ hb hβ
  simp only at hh
  have u1 := T.run_underlying hi w
  rw [hd] at u1
  obtain ⟨r', g1, g2⟩ := findKey_sound T w hki hk hok he hf
  have hgo := run_getObj_map (P := P) hh
  cases r with
  | none =>
    simp only [FoundR] at g2
    subst g2
    refine ⟨c, base, n, .map es' clock, hβ, ?_, es', set_same (blk_lt hh), he⟩
    simp [Builtin.delete_, hts, u1, hgo, checkKey_sound T w hki hk hok, g1, run_setObj_map hh]
  | some p =>
    obtain ⟨j, u⟩ := p
    obtain ⟨v0', e', rfl, hvr, hj, hval⟩ := g2
    have hj' : j < es'.size := by
      have := (List.getElem?_eq_some_iff.1 hj).1
      simpa using this
    refine ⟨c, base, n, .map (es'.eraseIdxIfInBounds j) clock, hβ, ?_, es'.eraseIdxIfInBounds j, set_same (blk_lt hh), ?_⟩
    · simp [Builtin.delete_, hts, u1, hgo, checkKey_sound T w hki hk hok, g1, run_setObj_map hh]
    · have : (es'.eraseIdxIfInBounds j).toList = es'.toList.eraseIdx j := by
        simp [Array.eraseIdxIfInBounds, hj']
      rw [this]
      exact he.erase j

include T in
theorem delete_nil {t kt et : TypeId} {i ki : TInfo} (hi : types t = some i) (hd : i.desc = .map kt et) (hki : types kt = some ki) {k' : Value} {k : AVal} (hk : VR β k k') (hok : keyOk types ki k = true) (ty : TypeId) (ts : Array TypeId) (hts : ts[0]? = some t) :
    (Builtin.delete_ ts ty #[.map none, k']).run P w = .ok (.tuple #[]) w := by
  have u1 := T.run_underlying hi w
  rw [hd] at u1
  simp [Builtin.delete_, hts, u1, checkKey_sound T w hki hk hok]

end Go.Sx

/-
  SX, part 12: append, copy.
-/
namespace Go.Sx

variable {P : Program} {types : TypeId → Option TInfo} (T : TyOk P types) {β : Emb} (w : World)

theorem bytes_VRs : ∀ (l : List UInt8), VRs β (l.map fun c => AVal.int .u8 c.toNat) (l.map fun b => Value.int .u8 b.toNat)
  | [] => .nil
  | c :: l => .cons _ _ _ _ (.int _ _) (bytes_VRs l)

/-- What is laid behind: its length, and its first cells. -/
theorem appended_sound {H : AHeap} (hR : Rel β H w.heap) {sz : Nat} {x : AVal} {x' : Value} (hx : VR β x x') {n : Nat} {new : List AVal} (h : appended H sz x = some (n, new)) :
    (Builtin.lenOf x').run P w = .ok n w ∧ new.all AVal.one = true ∧ new.length = n * sz ∧
      ∀ m, m ≤ n → ∃ arr, (∀ w2 : World, w2.heap = w.heap → (Builtin.firstCells sz m x').run P w2 = .ok arr w2) ∧ VRs β (new.take (m * sz)) arr.toList := by
  unfold appended at h
  split at h
  · cases h
    cases hx
    refine ⟨rfl, rfl, by simp, fun m hm => ⟨#[], fun w2 _ => rfl, by simpa using VRs.nil⟩⟩
  · rename_i b off len cap z ex
    split at h
    · rename_i hz
      subst hz
      split at h
      · rename_i vs ro ty hb
        split at h
        · rename_i l hl
          cases h
          obtain ⟨c, base, k, o, cap', rfl, hβ, ho, hcap, hex, hnk, hle⟩ := hx.slice_inv
          obtain ⟨cs, e, fz, hh, hsz, hlen, hc, _⟩ := hR.obj b _ _ hb hβ
          simp only at hh hsz hlen hc
          have hll := (readCells_spec hl).2
          rcases hc.read hl with ⟨q1, q2, q3⟩ | ⟨q1, q2⟩
          · refine ⟨rfl, q2, hll, fun m hm => ?_⟩
            have hmz : m * z ≤ n * z := Nat.mul_le_mul_right _ hm
            by_cases h0 : m * z = 0
            · refine ⟨#[], fun w2 _ => ?_, by rw [h0]; simpa using VRs.nil⟩
              simp only [Builtin.firstCells, h0]
              rfl
            · have ho' : o = base + off := by
                rcases ho with ho | ho
                · exact ho
                · have : n = 0 := by omega
                  subst this
                  have : m = 0 := by omega
                  subst this
                  simp at h0
              subst ho'
              refine ⟨((cs.toList.drop (base + off)).take (m * z)).toArray, fun w2 hw2 => by simp only [Builtin.firstCells]; exact run_loadCells_of (by rw [hw2]; exact hh) (by omega), ?_⟩
              have := q1.take (m * z)
              rw [List.take_take, Nat.min_eq_left hmz] at this
              simpa using this
          · refine ⟨rfl, by rw [q2]; rfl, hll, fun m hm => ⟨#[], fun w2 _ => ?_, by rw [q2]; simpa using VRs.nil⟩⟩
            have hmz : m * z ≤ n * z := Nat.mul_le_mul_right _ hm
            have h0 : m * z = 0 := by omega
            simp only [Builtin.firstCells, h0]
            rfl
        · cases h
      · cases h
    · cases h
  · rename_i s
    split at h
    · rename_i hz
      subst hz
      cases h
      obtain ⟨b, rfl, hb⟩ := hx.str_inv
      refine ⟨by rw [← hb, size_data]; rfl, ?_, by simp, fun m hm => ⟨_, fun w2 _ => rfl, ?_⟩⟩
      · rw [List.all_eq_true]
        intro x hx
        obtain ⟨c, _, rfl⟩ := List.mem_map.1 hx
        rfl
      · rw [Nat.mul_one, Array.toList_map, ← List.map_take, extract_data]
        simp only [List.drop_zero, Nat.sub_zero, hb]
        exact bytes_VRs _
    · cases h
  · cases h

theorem growBy_le (newLen : Nat) : ∀ r c, Builtin.growBy newLen r c ≤ max c (newLen + (newLen + 768) / 4)
  | 0, c => by simp only [Builtin.growBy]; omega
  | r + 1, c => by
    simp only [Builtin.growBy]
    split
    · omega
    · rename_i h
      have := growBy_le newLen r (c + (c + 768) / 4)
      omega

theorem nextcap_le {need cap : Nat} (h : cap < need) : Builtin.nextslicecap need cap ≤ 3 * need := by
  unfold Builtin.nextslicecap
  split
  · omega
  · split
    · omega
    · have := growBy_le need 4 cap
      omega

/-- A name gets a place inside a block whose own name dies. -/
theorem Rel.move {H : AHeap} {h : Array Obj} (r : Rel β H h) {b : Nat} {c base n : Nat} (hβ : β b = some (c, base, n)) {o0 : AObj} (hg : H.get b = some o0) (hb : b ≠ H.next) {o : AObj} {oc : Obj} {base' : Nat}
    (ho : ObjR (β.upd H.next (c, base', n)) o (c, base', n) (h.setIfInBounds c oc)) : Rel (β.upd H.next (c, base', n)) (((H.bump 1).set H.next o).kill b) (h.setIfInBounds c oc) := by
  have hnone : β H.next = none := by
    cases hq : β H.next with
    | none => rfl
    | some x => have := (r.dom _ _ hq).1; omega
  have hle := Emb.le_upd hnone (c, base', n)
  refine ⟨?_, ?_, ?_⟩
  · intro d y hd
    unfold Emb.upd at hd
    split at hd
    · rename_i e; cases hd; subst e; exact ⟨by simp, by simpa using (r.dom b _ hβ).2⟩
    · have := r.dom d y hd; exact ⟨by simp; omega, by simpa using this.2⟩
  · intro d o' y hg' hd
    simp only [AHeap.get_kill, AHeap.get_set, AHeap.get_bump] at hg'
    split at hg'
    · cases hg'
    · rename_i h1
      split at hg'
      · rename_i h2
        cases hg'
        subst h2
        rw [Emb.upd_same] at hd; cases hd
        exact ho
      · rename_i h2
        unfold Emb.upd at hd
        rw [if_neg h2] at hd
        refine (r.obj d o' y hg' hd).mono hle (set_other fun e => h1 ?_)
        exact r.inj d b o' o0 y _ hg' hg hd hβ e.symm
  · intro d d' o1 o2 y y' g g' hd hd' hy
    simp only [AHeap.get_kill, AHeap.get_set, AHeap.get_bump] at g g'
    unfold Emb.upd at hd hd'
    split at g
    · cases g
    · rename_i h1
      split at g'
      · cases g'
      · rename_i h1'
        split at g
        · rename_i h2
          rw [if_pos h2] at hd; cases hd
          split at g'
          · rename_i h2'; omega
          · rename_i h2'
            rw [if_neg h2'] at hd'
            exact absurd (r.inj d' b o2 o0 y' _ g' hg hd' hβ hy.symm) h1'
        · rename_i h2
          rw [if_neg h2] at hd
          split at g'
          · rename_i h2'
            rw [if_pos h2'] at hd'; cases hd'
            exact absurd (r.inj d b o1 o0 y _ g hg hd hβ hy) h1
          · rename_i h2'
            rw [if_neg h2'] at hd'
            exact r.inj d d' o1 o2 y y' g g' hd hd' hy

theorem Rel.fresh {H : AHeap} {h : Array Obj} (r : Rel β H h) : β H.next = none := by
  cases hq : β H.next with
  | none => rfl
  | some x => have := (r.dom _ _ hq).1; omega

/-- A new block at the next name. -/
theorem Rel.new {H : AHeap} {w : World} (r : Rel β H w.heap) {o : AObj} {oc : Obj} {n : Nat} {w' : World} (hw : w'.heap = w.heap.push oc) (ho : ∀ β', β.le β' → ∀ hp : Array Obj, hp[w.heap.size]? = some oc → ObjR β' o (w.heap.size, 0, n) hp)
    (ht : w'.tape = w.tape) (hos : w'.os = w.os) (hout : w'.output = w.output) :
    Rel (β.upd H.next (w.heap.size, 0, n)) ((H.bump 1).set H.next o) w'.heap ∧ Ext H.next β (β.upd H.next (w.heap.size, 0, n)) H ((H.bump 1).set H.next o) w w' ∧ β.le (β.upd H.next (w.heap.size, 0, n)) := by
  have hf := r.fresh
  have hle := Emb.le_upd hf (w.heap.size, 0, n)
  have r1 : Rel β (H.bump 1) w'.heap := by rw [hw]; exact (r.push oc).bump 1
  refine ⟨r1.add hf (by simp) (by rw [hw]; simp) (ho _ hle _ (by rw [hw]; exact push_new)) ?_, ⟨hle, ?_, ?_, by rw [hw]; simp, ?_, ht, hos, hout, by simp⟩, hle⟩
  · intro c o' y hg hc he
    have := (r.dom c y hc).2
    omega
  · intro b x hb
    unfold Emb.upd at hb
    split at hb
    · rename_i e; cases hb; exact .inr ⟨by omega, .inl (Nat.le_refl _)⟩
    · exact .inl hb
  · intro b o' hg hb
    simp only [AHeap.get_set, AHeap.get_bump] at hg
    split at hg
    · rename_i e; omega
    · exact ⟨o', hg⟩
  · intro c hc _
    rw [hw]; exact push_old hc

section run
variable {st xt e : TypeId} {ts : Array TypeId} {ty : TypeId} {i xi ei : TInfo}

/-- The cells that an append takes out of its second operand, as the model spells it. -/
theorem append_fits (T : TyOk P types) (hi : types st = some i) (hd : i.desc = .slice e) (hxi : types xt = some xi) (hnx : ∀ k, xi.desc ≠ .int k) (hei : types e = some ei) (ht0 : ts[0]? = some st) (ht1 : ts[1]? = some xt)
    {base : Option Addr} {sLen sCap n : Nat} {x' : Value} (hl : (Builtin.lenOf x').run P w = .ok n w) (hneed : sLen + n ≤ sCap) {arr : Array Value} (hf : (Builtin.firstCells ei.size n x').run P w = .ok arr w) {w' : World}
    (hs : base = none ∧ w' = w ∨ ∃ a, base = some a ∧ (storeCells (a.add (sLen * ei.size)) arr.toList).run P w = .ok () w') :
    (Builtin.append_ ts ty #[.slice base sLen sCap, x']).run P w = .ok (.slice base (sLen + n) sCap) w' := by
  have u1 := T.run_underlying hi w
  have u2 := T.run_underlying hxi w
  rw [hd] at u1
  have hz : (xi.desc matches .int _) = false := by
    split
    · rename_i hq; exact absurd hq (hnx _)
    · rfl
  have g0 : #[Value.slice base sLen sCap, x'][0]? = some (.slice base sLen sCap) := rfl
  have g1 : #[Value.slice base sLen sCap, x'][1]? = some x' := rfl
  simp only [Builtin.append_, ht0, ht1, g0, g1, Sem.run_bind, u1, u2, Result.andThen_ok, T.run_sizeOf hei, Sem.run_pure, hz, Bool.false_eq_true, if_false, hl, Sem.run_ite, hneed, if_true, Bool.not_false, hf]
  rcases hs with ⟨rfl, rfl⟩ | ⟨a, rfl, hs⟩
  · rfl
  · simp only [Sem.run_bind, hs, Result.andThen_ok, Sem.run_pure]

theorem append_grows (T : TyOk P types) (hi : types st = some i) (hd : i.desc = .slice e) (hxi : types xt = some xi) (hnx : ∀ k, xi.desc ≠ .int k) (hei : types e = some ei) (ht0 : ts[0]? = some st) (ht1 : ts[1]? = some xt)
    {base : Option Addr} {sLen sCap n : Nat} {x' : Value} (hl : (Builtin.lenOf x').run P w = .ok n w) (hneed : ¬ sLen + n ≤ sCap) (hlim : (sLen + n) * ei.bytes ≤ 2 ^ 40) (hlim2 : sLen + n ≤ 2 ^ 40)
    {arr old : Array Value} (hf : ∀ w2 : World, w2.heap = w.heap → (Builtin.firstCells ei.size n x').run P w2 = .ok arr w2) (ho : ∀ w2 : World, w2.heap = w.heap → (Builtin.firstCells ei.size sLen (.slice base sLen sCap)).run P w2 = .ok old w2) :
    ∃ newCap rest w', sLen + n ≤ newCap ∧ rest.size = (newCap - (sLen + n)) * ei.size ∧ w'.heap = w.heap.push (.cells (old ++ arr ++ rest) e (0, 0)) ∧ w'.tape = w.tape ∧ w'.os = w.os ∧ w'.output = w.output ∧
      (Builtin.append_ ts ty #[.slice base sLen sCap, x']).run P w = .ok (.slice (some ⟨w.heap.size, 0, none⟩) (sLen + n) newCap) w' := by
  have u1 := T.run_underlying hi w
  have u2 := T.run_underlying hxi w
  rw [hd] at u1
  have hz : (xi.desc matches .int _) = false := by
    split
    · rename_i hq; exact absurd hq (hnx _)
    · rfl
  have g0 : #[Value.slice base sLen sCap, x'][0]? = some (.slice base sLen sCap) := rfl
  have g1 : #[Value.slice base sLen sCap, x'][1]? = some x' := rfl
  obtain ⟨ti, ht1', ht2, ht3⟩ := T.size e ei hei
  have hti : ∀ w2 : World, (typeInfo e).run P w2 = .ok ti w2 := fun w2 => by simp [typeInfo, ht1']
  obtain ⟨z, hz1, hz2, hz3⟩ := T.run_zero hei w
  obtain ⟨tz, z0, q1, q2, q3, q4⟩ := T.zero e ei hei
  have hzz : ∀ w2 : World, (zeroValue e).run P w2 = .ok z0 w2 := fun w2 => by simp [zeroValue, typeInfo, q1, q2]
  have hcap : sCap < sLen + n := by omega
  have hb := nextcap_le hcap
  have hno : ¬ (Builtin.nextslicecap (sLen + n) sCap * ti.bytes > 2 ^ 48) := by
    rw [ht3]
    have := Nat.mul_le_mul_right ei.bytes hb
    rw [Nat.mul_assoc] at this
    omega
  let q : Question := .appendCap (sLen + n) sCap e
  let newCap := q.cut (w.tape w.drawn q)
  have hnc : sLen + n ≤ newCap := Nat.le_add_right _ _
  let w1 : World := { w with drawn := w.drawn + 1 }
  have hch : (choose (.appendCap (sLen + n) sCap e)).run P w = .ok newCap w1 := by simp [Question.forced, newCap, q, w1]
  refine ⟨newCap, Builtin.zeroCells z0.cells (newCap - (sLen + n)), w1.alloc (.cells (old ++ arr ++ Builtin.zeroCells z0.cells (newCap - (sLen + n))) e (0, 0)), hnc, by simp [Builtin.zeroCells, q4], rfl, rfl, rfl, rfl, ?_⟩
  simp only [Builtin.append_, ht0, ht1, g0, g1, Sem.run_bind, u1, u2, Result.andThen_ok, T.run_sizeOf hei, Sem.run_pure, hz, Bool.false_eq_true, if_false, hl, Sem.run_ite, hneed, Bool.not_false, hti]
  rw [if_neg (by rw [IntKind.max_i64]; omega)]
  rw [if_neg hno]
  simp only [Sem.run_bind, hch, Result.andThen_ok, hti, run_askRoom, ho w1 rfl, hf w1 rfl, if_true, hzz, Sem.run_pure, newRow]
  rfl

end run

theorem firstCells_slice {w : World} {c o len cap n sz : Nat} {cs : Array Value} {e : TypeId} {fz : Nat × Nat} (h : w.heap[c]? = some (.cells cs e fz)) (hn : o + n * sz ≤ cs.size) :
    (Builtin.firstCells sz n (.slice (some ⟨c, o, none⟩) len cap)).run P w = .ok ((cs.toList.drop o).take (n * sz)).toArray w := by
  simp only [Builtin.firstCells]; exact run_loadCells_of h hn

theorem grownTy_spec (e : TypeId) (off : Nat) (ty : Option (TypeId × Bool)) : ∀ t ex, grownTy e off ty = some (t, ex) → e = t ∧ ex = false := by
  intro t ex h
  unfold grownTy at h
  split at h
  · split at h
    · cases h; exact ⟨rfl, rfl⟩
    · cases h
  · cases h

set_option maxHeartbeats 1000000 in
theorem append_sound (T : TyOk P types) {H : AHeap} (hR : Rel β H w.heap) {st xt e : TypeId} {i xi ei : TInfo} (hi : types st = some i) (hd : i.desc = .slice e) (hxi : types xt = some xi) (hnx : ∀ k, xi.desc ≠ .int k) (hei : types e = some ei)
    {s x : AVal} {s' x' : Value} (hs : VR β s s') (hx : VR β x x') {v : AVal} {H' : AHeap} (h : aAppend e ei.size ei.bytes H s x = some (v, H')) (ts : Array TypeId) (ht0 : ts[0]? = some st) (ht1 : ts[1]? = some xt) (rt : TypeId) :
    ∃ β' v' w', (Builtin.append_ ts rt #[s', x']).run P w = .ok v' w' ∧ VR β' v v' ∧ Rel β' H' w'.heap ∧ Ext H.next β β' H H' w w' := by
  unfold aAppend at h
  split at h
  · cases h
  · rename_i n new happ
    obtain ⟨a1, a2, a3, a4⟩ := appended_sound (P := P) w hR hx happ
    obtain ⟨arr, a5, a6⟩ := a4 n (Nat.le_refl _)
    have a6' : VRs β new arr.toList := by rw [← a3, List.take_length] at a6; exact a6
    have a7 := a6'.length
    have a8 : arr.size = n * ei.size := by rw [← a3, a7]; simp
    split at h
    · -- the nil slice
      cases hs
      split at h
      · rename_i h0
        cases h
        subst h0
        exact ⟨β, .slice none 0 0, w, append_fits w T hi hd hxi hnx hei ht0 ht1 a1 (Nat.le_refl _) (a5 w rfl) (.inl ⟨rfl, rfl⟩), .nilslice, hR, Ext.refl _ _ _ _⟩
      · rename_i h0
        split at h
        · rename_i hlim
          cases h
          obtain ⟨newCap, rest, w', q1, q2, q3, q4, q5, q6, q7⟩ := append_grows w T hi hd hxi hnx hei ht0 ht1 (base := none) (sLen := 0) (sCap := 0) a1 (by omega) (by simpa using hlim.1) (by simpa using hlim.2) a5 (old := #[]) (fun _ _ => rfl)
          simp only [Nat.zero_add] at q1 q2 q7
          have hsz : (#[] ++ arr ++ rest).size = newCap * ei.size := by
            simp [a8, q2]
            rw [← Nat.add_mul]; congr 1; omega
          obtain ⟨r1, r2, r3⟩ := hR.new (o := .cells new false (some (e, false))) (n := (#[] ++ arr ++ rest).size) q3 (fun β' hle hp hh => by
            refine ⟨#[] ++ arr ++ rest, e, (0, 0), hh, rfl, by simp; omega, ?_, fun _ i _ => by simp, fun _ _ e => by cases e; exact ⟨rfl, rfl, fun e => by cases e⟩⟩
            intro j u hj
            obtain ⟨y, hy, hyr⟩ := a6'.get hj
            refine ⟨List.all_eq_true.1 a2 _ (List.mem_of_getElem? hj), y, ?_, hyr.mono hle⟩
            have hlt : j < arr.size := by
              have := (List.getElem?_eq_some_iff.1 hy).1
              simpa using this
            simp only [Nat.zero_add]
            rw [Array.getElem?_append_left (by simp; omega), Array.getElem?_append_right (by simp)]
            simpa using hy) q4 q5 q6
          exact ⟨_, _, w', q7, .slice _ 0 n n ei.size false _ 0 _ 0 newCap (Emb.upd_same _ _ _) (.inl rfl) q1 (fun hh => by cases hh) (by rw [hsz]; omega) (Nat.le_refl _), r1, r2⟩
        · cases h
    · -- a slice
      rename_i b off len cap z ex
      split at h
      · rename_i hz
        subst hz
        split at h
        · rename_i vs ro ty hb
          obtain ⟨c, base, k, o, cap', rfl, hβ, ho, hcap, hex, hnk, hle⟩ := hs.slice_inv
          obtain ⟨cs, e', fz, hh, hsz, hlen, hc, hfz⟩ := hR.obj b _ _ hb hβ
          simp only at hh hsz hlen hc hfz
          split at h
          · -- it fits
            rename_i hfit
            have hm : (len + n) * ei.size ≤ cap' * ei.size := Nat.mul_le_mul_right _ (by omega)
            have hadd : (len + n) * ei.size = len * ei.size + n * ei.size := Nat.add_mul _ _ _
            split at h
            · rename_i hro
              split at h
              · rename_i h0
                cases h
                subst h0
                have harr : arr = #[] := by
                  apply Array.eq_empty_of_size_eq_zero; rw [a8]; simp
                subst harr
                exact ⟨β, _, w, append_fits w T hi hd hxi hnx hei ht0 ht1 a1 (by omega) (a5 w rfl) (.inr ⟨_, rfl, rfl⟩), hs, hR, Ext.refl _ _ _ _⟩
              · cases h
            · rename_i hro
              have hro' : ro = false := by simpa using hro
              subst hro'
              split at h
              · rename_i vs' hw
                cases h
                have hadr : Addr.add (⟨c, o, none⟩ : Addr) (len * ei.size) = ⟨c, o + len * ei.size, none⟩ := by
                  unfold Addr.add; split
                  · rename_i h0; simp [h0]
                  · rfl
                obtain ⟨cs', q1, q2⟩ := run_storeCells_of (P := P) c (o + len * ei.size) e' fz arr.toList 0 cs w hh (by simp [a8]; omega) (a6'.ones a2) (by rw [hsz]; exact hfz.1 rfl)
                rw [← hadr] at q1
                have hcs' : cs'.size = cs.size := by
                  have := congrArg List.length q2
                  simp [a8] at this
                  omega
                have hO : ObjR β (.cells vs' false ty) (c, base, k) (w.heap.setIfInBounds c (.cells cs' e' fz)) := by
                  refine ⟨cs', e', fz, set_same (blk_lt hh), by simp only; omega, by rw [writeCells_len hw]; exact hlen, ?_, fun _ => hfz.1 rfl, by rw [writeCells_len hw]; exact hfz.2⟩
                  simp only
                  by_cases h0 : new = []
                  · subst h0
                    have e1 : arr.toList = [] := by simpa using a7.symm
                    have e2 : cs' = cs := by
                      apply Array.ext'
                      rw [q2, e1]
                      simp
                    have e3 : vs' = vs := by
                      unfold writeCells at hw
                      split at hw
                      · cases hw; simp
                      · cases hw
                    rw [e2, e3]; exact hc
                  · have ho' : o = base + off := by
                      rcases ho with ho | ho
                      · exact ho
                      · exfalso
                        have hn0 : n = 0 := by omega
                        subst hn0
                        apply h0
                        apply List.eq_nil_of_length_eq_zero
                        rw [a3]; simp
                    subst ho'
                    exact hc.write a6' a2 hw (by omega) (by simpa [Nat.add_assoc] using q2)
                refine ⟨β, _, _, append_fits w T hi hd hxi hnx hei ht0 ht1 a1 (by omega) (a5 w rfl) (.inr ⟨_, rfl, q1⟩), ?_, hR.change hβ hb hO, Ext.change hβ hb _ rfl rfl rfl rfl⟩
                exact .slice b off (len + n) cap ei.size ex c base k o cap' hβ ho hcap hex hnk (by omega)
              · cases h
          · -- it grows, or it may
            rename_i hfit
            split at h
            · rename_i hlim
              split at h
              · rename_i old hold
                have hold' := hc.read hold
                have holl := (readCells_spec hold).2
                -- the elder cells, as the model reads them
                have hrd : ∃ oldA : Array Value, (∀ w2 : World, w2.heap = w.heap → (Builtin.firstCells ei.size len (.slice (some ⟨c, o, none⟩) len cap')).run P w2 = .ok oldA w2) ∧ VRs β old oldA.toList ∧ old.all AVal.one = true ∧ oldA.toList = (cs.toList.drop (base + off)).take (len * ei.size) := by
                  rcases hold' with ⟨g1, g2, g3⟩ | ⟨g1, g2⟩
                  · by_cases h0 : len * ei.size = 0
                    · have : old = [] := List.eq_nil_of_length_eq_zero (by rw [holl]; exact h0)
                      subst this
                      refine ⟨#[], fun w2 _ => ?_, .nil, rfl, by rw [h0]; simp⟩
                      simp only [Builtin.firstCells, h0]; rfl
                    · have ho' : o = base + off := by
                        rcases ho with ho | ho
                        · exact ho
                        · exfalso
                          have : len = 0 := by omega
                          subst this
                          simp at h0
                      subst ho'
                      exact ⟨_, fun w2 hw2 => firstCells_slice (by rw [hw2]; exact hh) g3, by simpa using g1, g2, by simp⟩
                  · subst g2
                    refine ⟨#[], fun w2 _ => ?_, .nil, rfl, by rw [g1]; simp⟩
                    simp only [Builtin.firstCells, g1]; rfl
                obtain ⟨oldA, o1, o2, o3, o5⟩ := hrd
                have o4 : oldA.size = len * ei.size := by
                  have := o2.length
                  rw [holl] at this
                  simpa using this.symm
                have hboth : VRs β (old ++ new) (oldA ++ arr).toList := by rw [Array.toList_append]; exact o2.append a6'
                have hone : (old ++ new).all AVal.one = true := by rw [List.all_append, o3, a2]; rfl
                -- a new row
                have hgrow : ∀ ty', (∀ t ex, ty' = some (t, ex) → e = t ∧ ex = false) → ¬ len + n ≤ cap' → ∃ β' v' w', (Builtin.append_ ts rt #[.slice (some ⟨c, o, none⟩) len cap', x']).run P w = .ok v' w' ∧ VR β' (.slice H.next 0 (len + n) (len + n) ei.size false) v' ∧
                    Rel β' ((H.bump 1).set H.next (.cells (old ++ new) false ty')) w'.heap ∧ Ext H.next β β' H ((H.bump 1).set H.next (.cells (old ++ new) false ty')) w w' := by
                  intro ty' hty' hng
                  obtain ⟨newCap, rest, w', q1, q2, q3, q4, q5, q6, q7⟩ := append_grows w T hi hd hxi hnx hei ht0 ht1 a1 hng hlim.1 hlim.2 a5 o1
                  have hsz' : (oldA ++ arr ++ rest).size = newCap * ei.size := by
                    simp [a8, q2, o4]
                    rw [← Nat.add_mul, ← Nat.add_mul]; congr 1; omega
                  obtain ⟨r1, r2, r3⟩ := hR.new (o := .cells (old ++ new) false ty') (n := (oldA ++ arr ++ rest).size) q3 (fun β' hle hp hh => by
                    have hl1 := hboth.length
                    refine ⟨oldA ++ arr ++ rest, e, (0, 0), hh, rfl, by rw [hl1]; simp, ?_, fun _ i _ => by simp, fun t ex ht => ⟨(hty' t ex ht).1, rfl, fun h => by rw [(hty' t ex ht).2] at h; cases h⟩⟩
                    intro j u hj
                    obtain ⟨y, hy, hyr⟩ := hboth.get hj
                    refine ⟨List.all_eq_true.1 hone _ (List.mem_of_getElem? hj), y, ?_, hyr.mono hle⟩
                    have hlt : j < (oldA ++ arr).size := by
                      have := (List.getElem?_eq_some_iff.1 hy).1
                      simpa using this
                    simp only [Nat.zero_add]
                    rw [Array.getElem?_append_left hlt]
                    rw [Array.getElem?_toList] at hy
                    exact hy) q4 q5 q6
                  exact ⟨_, _, w', q7, .slice _ 0 (len + n) (len + n) ei.size false _ 0 _ 0 newCap (Emb.upd_same _ _ _) (.inl rfl) q1 (fun hh => by cases hh) (by rw [hsz']; omega) (Nat.le_refl _), r1, r2⟩
                split at h
                · rename_i hexx
                  cases h
                  exact hgrow _ (fun _ _ e => by cases e; exact ⟨rfl, rfl⟩) (by rw [hex hexx]; exact hfit)
                · rename_i hexx
                  split at h
                  · cases h
                  · rename_i hro
                    have hro' : ro = false := by simpa using hro
                    subst hro'
                    cases h
                    have hbn : b ≠ H.next := by have := (hR.dom b _ hβ).1; omega
                    by_cases hin : len + n ≤ cap'
                    · -- in place: the elder name dies
                      have hm : (len + n) * ei.size ≤ cap' * ei.size := Nat.mul_le_mul_right _ hin
                      have hadd : (len + n) * ei.size = len * ei.size + n * ei.size := Nat.add_mul _ _ _
                      have ho' : o = base + off := by
                        rcases ho with ho | ho
                        · exact ho
                        · omega
                      subst ho'
                      have hadr : Addr.add (⟨c, base + off, none⟩ : Addr) (len * ei.size) = ⟨c, base + off + len * ei.size, none⟩ := by
                        unfold Addr.add; split
                        · rename_i h0; simp [h0]
                        · rfl
                      obtain ⟨cs', q1, q2⟩ := run_storeCells_of (P := P) c (base + off + len * ei.size) e' fz arr.toList 0 cs w hh (by simp [a8]; omega) (a6'.ones a2) (by rw [hsz]; exact hfz.1 rfl)
                      rw [← hadr] at q1
                      have hcs' : cs'.size = cs.size := by
                        have := congrArg List.length q2
                        simp [a8] at this
                        omega
                      have hnone := hR.fresh
                      have hleq := Emb.le_upd hnone (c, base + off, k)
                      have hO : ObjR (β.upd H.next (c, base + off, k)) (.cells (old ++ new) false (grownTy e off ty)) (c, base + off, k) (w.heap.setIfInBounds c (.cells cs' e' fz)) := by
                        have hl1 := hboth.length
                        refine ⟨cs', e', fz, set_same (blk_lt hh), by simp only; omega, ?_, ?_, fun _ => hfz.1 rfl, ?_⟩
                        · simp only; rw [hl1]; simp [o4, a8]; omega
                        · simp only
                          intro j u hj
                          obtain ⟨y, hy, hyr⟩ := hboth.get hj
                          refine ⟨List.all_eq_true.1 hone _ (List.mem_of_getElem? hj), y, ?_, hyr.mono hleq⟩
                          rw [← Array.getElem?_toList, q2, Nat.add_zero]
                          rw [Array.toList_append, o5] at hy
                          have ht1 : (cs.toList.take (base + off + len * ei.size)).length = base + off + len * ei.size := by simp; omega
                          have ht2 : ((cs.toList.drop (base + off)).take (len * ei.size)).length = len * ei.size := by simp; omega
                          by_cases hj2 : j < len * ei.size
                          · rw [List.getElem?_append_left (by rw [ht1]; omega), List.getElem?_take, if_pos (by omega)]
                            rw [List.getElem?_append_left (by rw [ht2]; exact hj2), List.getElem?_take, if_pos hj2, List.getElem?_drop] at hy
                            exact hy
                          · rw [List.getElem?_append_right (by rw [ht1]; omega), ht1]
                            rw [List.getElem?_append_right (by rw [ht2]; omega), ht2] at hy
                            have hlt := (List.getElem?_eq_some_iff.1 hy).1
                            rw [show base + off + j - (base + off + len * ei.size) = j - len * ei.size from by omega]
                            rw [List.getElem?_append_left hlt]
                            exact hy
                        · intro t ex ht
                          unfold grownTy at ht
                          split at ht
                          · rename_i t0 ex0
                            split at ht
                            · rename_i he
                              cases ht
                              have h2 := (hfz.2 _ _ rfl).2.1
                              exact ⟨((hfz.2 _ _ rfl).1).trans he.1, by simp only at h2 ⊢; omega, fun h => by cases h⟩
                            · cases ht
                          · cases ht
                      have hmv := hR.move hβ hb hbn hO
                      refine ⟨_, _, _, append_fits w T hi hd hxi hnx hei ht0 ht1 a1 hin (a5 w rfl) (.inr ⟨_, rfl, q1⟩), .slice H.next 0 (len + n) (len + n) ei.size false c (base + off) k (base + off) cap' (Emb.upd_same _ _ _) (.inl rfl) hin (fun hh => by cases hh) (by omega) (Nat.le_refl _), hmv, ?_⟩
                      refine ⟨hleq, ?_, ?_, by simp, ?_, rfl, rfl, rfl, by simp⟩
                      · intro d y hd'
                        unfold Emb.upd at hd'
                        split at hd'
                        · rename_i e0; cases hd'; exact .inr ⟨by omega, .inr ⟨b, _, _, hb, hβ, rfl⟩⟩
                        · exact .inl hd'
                      · intro d o' hg hd'
                        simp only [AHeap.get_kill, AHeap.get_set, AHeap.get_bump] at hg
                        split at hg
                        · cases hg
                        · split at hg
                          · rename_i e0; omega
                          · exact ⟨o', hg⟩
                      · intro d hd' hne
                        exact set_other (hne b _ _ hb hβ)
                    · obtain ⟨β', v', w', g1, g2, g3, g4⟩ := hgrow (grownTy e off ty) (grownTy_spec e off ty) hin
                      refine ⟨β', v', w', g1, g2, g3.less (by simp) (fun d o' hg => ?_), { g4 with live := fun d o' hg hd' => ?_, next := by simp }⟩
                      · simp only [AHeap.get_kill] at hg
                        split at hg
                        · cases hg
                        · exact hg
                      · simp only [AHeap.get_kill] at hg
                        split at hg
                        · cases hg
                        · exact g4.live d o' hg hd'
              · cases h
            · cases h
        · cases h
      · cases h
    · cases h

end Go.Sx
