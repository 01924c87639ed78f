/-
  SX, part 13: copy; all operations that write, in one theorem.
-/
import Derived.Test.YtoaagilfkboepaaGreatDoorSxWriteAll
import Derived.Tactics
set_option linter.unusedSimpArgs false
set_option linter.unusedVariables false
namespace Go.Sx

variable {P : Program} {types : TypeId → Option TInfo} {β : Emb} (w : World)

theorem copy_sound (T : TyOk P types) {H : AHeap} (hR : Rel β H w.heap) {dt e : TypeId} {i ei : TInfo} (hi : types dt = some i) (hd : i.desc = .slice e) (hei : types e = some ei) {d x : AVal} {d' x' : Value} (hdr : VR β d d') (hx : VR β x x')
    {v : AVal} {H' : AHeap} (h : aCopy ei.size H d x = some (v, H')) (ts : Array TypeId) (ht0 : ts[0]? = some dt) (ty : TypeId) :
    ∃ β' v' w', (Builtin.copy_ ts ty #[d', x']).run P w = .ok v' w' ∧ VR β' v v' ∧ Rel β' H' w'.heap ∧ Ext H.next β β' H H' w w' := by
  have u1 := T.run_underlying hi w
  rw [hd] at u1
  have g0 : #[d', x'][0]? = some d' := rfl
  have g1 : #[d', x'][1]? = some x' := rfl
  unfold aCopy at h
  split at h
  · cases hdr
    have hn : ∃ n, (Builtin.lenOf x').run P w = .ok n w ∧ ∃ arr, (Builtin.firstCells ei.size 0 x').run P w = .ok arr w := by
      split at h
      · cases hx; exact ⟨0, rfl, #[], rfl⟩
      · obtain ⟨c, base, k, o, cap', rfl, _⟩ := hx.slice_inv
        exact ⟨_, rfl, #[], by simp only [Builtin.firstCells, Nat.zero_mul]; rfl⟩
      · cases hx; exact ⟨_, rfl, _, rfl⟩
      · cases h
    have hv : v = .int .i64 0 ∧ H' = H := by split at h <;> first | (cases h; exact ⟨rfl, rfl⟩) | cases h
    obtain ⟨rfl, rfl⟩ := hv
    obtain ⟨n, q1, arr, q2⟩ := hn
    refine ⟨β, .int .i64 0, w, ?_, .int _ _, hR, Ext.refl _ _ _ _⟩
    simp only [Builtin.copy_, ht0, g0, g1, Sem.run_bind, u1, Result.andThen_ok, q1, T.run_sizeOf hei, Nat.min_zero]
    rw [q2]
    rfl
  · rename_i b off len cap z ex
    split at h
    · rename_i hz
      subst hz
      split at h
      · cases h
      · rename_i n new happ
        obtain ⟨a1, a2, a3, a4⟩ := appended_sound (P := P) w hR hx happ
        have hmn : Nat.min n len ≤ n := Nat.min_le_left _ _
        obtain ⟨arr, a5, a6⟩ := a4 (Nat.min n len) hmn
        simp only at h
        split at h
        · rename_i vs ty hb
          split at h
          · rename_i vs' hw
            cases h
            obtain ⟨c, base, k, o, cap', rfl, hβ, ho, hcap, hex, hnk, hle⟩ := hdr.slice_inv
            obtain ⟨cs, e', fz, hh, hsz, hlen, hc, hfz⟩ := hR.obj b _ _ hb hβ
            simp only at hh hsz hlen hc hfz
            have ha7 := a6.length
            have hml : Nat.min n len ≤ len := Nat.min_le_right _ _
            have hmz : Nat.min n len * ei.size ≤ n * ei.size := Nat.mul_le_mul_right _ hmn
            have harr : arr.size = Nat.min n len * ei.size := by
              simp only [List.length_take, a3, Array.length_toList] at ha7
              omega
            have hmc : Nat.min n len * ei.size ≤ cap' * ei.size := Nat.mul_le_mul_right _ (by omega)
            have h1t : (new.take (Nat.min n len * ei.size)).all AVal.one = true := by
              rw [List.all_eq_true] at a2 ⊢
              exact fun u hu => a2 u (List.mem_of_mem_take hu)
            obtain ⟨cs', q1, q2⟩ := run_storeCells_of (P := P) c o e' fz arr.toList 0 cs w hh (by simp [harr]; omega) (a6.ones h1t) (by rw [hsz]; exact hfz.1 trivial)
            have hcs' : cs'.size = cs.size := by
              have := congrArg List.length q2
              simp [harr] at this
              omega
            have hO : ObjR β (.cells vs' false ty) (c, base, k) (w.heap.setIfInBounds c (.cells cs' e' fz)) := by
              refine ⟨cs', e', fz, set_same (blk_lt hh), by simp only; omega, by rw [writeCells_len hw]; exact hlen, ?_, fun _ => hfz.1 trivial, by rw [writeCells_len hw]; exact hfz.2⟩
              simp only
              by_cases h0 : arr.toList = []
              · have e2 : cs' = cs := by
                  apply Array.ext'
                  rw [q2, h0]
                  simp
                have e4 : new.take (Nat.min n len * ei.size) = [] := List.eq_nil_of_length_eq_zero (by rw [ha7, h0]; rfl)
                have e3 : vs' = vs := by
                  rw [e4] at hw
                  unfold writeCells at hw
                  split at hw
                  · cases hw; simp
                  · cases hw
                rw [e2, e3]; exact hc
              · have ho' : o = base + off := by
                  rcases ho with ho | ho
                  · exact ho
                  · exfalso
                    apply h0
                    apply List.eq_nil_of_length_eq_zero
                    rw [Array.length_toList, harr]
                    have : Nat.min n len = 0 := by omega
                    rw [this]; simp
                subst ho'
                exact hc.write a6 h1t hw (by omega) (by simpa using q2)
            refine ⟨β, .int .i64 (Nat.min n len : Nat), { w with heap := w.heap.setIfInBounds c (.cells cs' e' fz) }, ?_, .int _ _, hR.change hβ hb hO, Ext.change hβ hb _ (oc := .cells cs' e' fz) rfl rfl rfl rfl⟩
            simp only [Builtin.copy_, ht0, g0, g1, Sem.run_bind, u1, Result.andThen_ok, a1, T.run_sizeOf hei, a5 w rfl, q1, Sem.run_pure]
            rfl
          · cases h
        · cases h
    · cases h
  · cases h

theorem args_two {a : Act} {args : Array Operand} {x y : Operand} (h : args.toList = [x, y]) : args.map a.eval = #[a.eval x, a.eval y] := by
  have : args = #[x, y] := by rw [← Array.toArray_toList (xs := args), h]
  subst this
  simp

set_option maxHeartbeats 1000000 in
/-- What an operation that writes comes to, the model's comes to. -/
theorem write_sound (T : TyOk P types) {fr : AFrame} {a : Act} (hF : FrR β fr a.tmps) {H : AHeap} (hR : Rel β H w.heap) (o : Oper) {v : AVal} {H' : AHeap} (h : aWrite types fr H o.op = some (v, H')) :
    Wrote β H w ((execOp a.eval o).run P w) v H' := by
  obtain ⟨dst, op, ty, pos, after, guard⟩ := o
  simp only at h
  unfold aWrite at h
  split at h
  -- store
  · rename_i t x y
    split at h
    · rename_i i b off u hi hx hy
      split at h
      · rename_i vs ty hb
        split at h
        · rename_i hc
          obtain ⟨h1, h2⟩ := hc
          split at h
          · rename_i vs' hw
            cases h
            obtain ⟨c, base, n, cs', e, fz, hβ, q1, q2⟩ := store_sound T w hR hi (hF.eval hx) hb (hF.eval hy) h1 h2 hw
            exact Wrote.change hR hβ hb (w' := { w with heap := w.heap.setIfInBounds c (.cells cs' e fz) }) rfl rfl rfl rfl q2 (n := .skip) (by simp [execOp, q1]) (.inr ⟨rfl, rfl⟩) (VR.undef β)
          · cases h
        · cases h
      · cases h
    · cases h
  -- mapUpdate
  · rename_i t m k x
    split at h
    · rename_i i b kv u hi hm hk hx
      split at h
      · rename_i kt et es clock hd hb
        split at h
        · rename_i ki hki
          split at h
          · rename_i hok
            split at h
            · rename_i j u0 hf
              cases h
              obtain ⟨c, base, n, oc, hβ, q1, q2⟩ := mapUpdate_sound T w hR hi hd hki (hF.eval hm) (hF.eval hk) (hF.eval hx) hok hb hf rfl
              exact Wrote.change hR hβ hb (w' := { w with heap := w.heap.setIfInBounds c oc }) rfl rfl rfl rfl q2 (n := .skip) (by simp [execOp, q1]) (.inr ⟨rfl, rfl⟩) (VR.undef β)
            · rename_i hf
              cases h
              obtain ⟨c, base, n, oc, hβ, q1, q2⟩ := mapUpdate_sound T w hR hi hd hki (hF.eval hm) (hF.eval hk) (hF.eval hx) hok hb hf rfl
              exact Wrote.change hR hβ hb (w' := { w with heap := w.heap.setIfInBounds c oc }) rfl rfl rfl rfl q2 (n := .skip) (by simp [execOp, q1]) (.inr ⟨rfl, rfl⟩) (VR.undef β)
            · cases h
          · cases h
        · cases h
      · cases h
    · cases h
  -- insert
  · rename_i t m k x
    split at h
    · rename_i i b kv u hi hm hk hx
      split at h
      · rename_i kt et es clock hd hb
        split at h
        · rename_i ki hki
          split at h
          · rename_i hok
            split at h
            · rename_i j u0 hf
              cases h
              obtain ⟨c, base, n, oc, hβ, q1, q2⟩ := mapUpdate_sound T w hR hi hd hki (hF.eval hm) (hF.eval hk) (hF.eval hx) hok hb hf rfl
              exact Wrote.change hR hβ hb (w' := { w with heap := w.heap.setIfInBounds c oc }) rfl rfl rfl rfl q2 (n := .skip) (by simp [execOp, q1]) (.inr ⟨rfl, rfl⟩) (VR.undef β)
            · rename_i hf
              cases h
              obtain ⟨c, base, n, oc, hβ, q1, q2⟩ := mapUpdate_sound T w hR hi hd hki (hF.eval hm) (hF.eval hk) (hF.eval hx) hok hb hf rfl
              exact Wrote.change hR hβ hb (w' := { w with heap := w.heap.setIfInBounds c oc }) rfl rfl rfl rfl q2 (n := .skip) (by simp [execOp, q1]) (.inr ⟨rfl, rfl⟩) (VR.undef β)
            · cases h
          · cases h
        · cases h
      · cases h
    · cases h
  -- mapEntry
  · rename_i t m k
    split at h
    · rename_i i b kv hi hm hk
      split at h
      · rename_i kt et es clock hd hb
        split at h
        · rename_i ki ei hki hei
          split at h
          · rename_i hok
            split at h
            · rename_i j u0 hf
              split at h
              · rename_i e0 he0
                cases h
                obtain ⟨c, base, n, oc, res', hβ, q1, q3, q2⟩ := mapEntry_sound T w hR hi hd hki hei (hF.eval hm) (hF.eval hk) hok hb hf (o := .map (setAt es j kv u0) clock) (res := .tuple [u0, .int .i64 e0.born]) ⟨e0, he0, rfl, rfl⟩
                exact Wrote.change hR hβ hb (w' := { w with heap := w.heap.setIfInBounds c oc }) rfl rfl rfl rfl q2 (n := .value res') (by simp [execOp, q1]) (.inl rfl) q3
              · cases h
            · rename_i hf
              cases h
              obtain ⟨c, base, n, oc, res', hβ, q1, q3, q2⟩ := mapEntry_sound T w hR hi hd hki hei (hF.eval hm) (hF.eval hk) hok hb hf (o := .map (es ++ [⟨kv, ei.zero, clock⟩]) (clock + 1)) (res := .tuple [ei.zero, .int .i64 clock]) ⟨rfl, rfl⟩
              exact Wrote.change hR hβ hb (w' := { w with heap := w.heap.setIfInBounds c oc }) rfl rfl rfl rfl q2 (n := .value res') (by simp [execOp, q1]) (.inl rfl) q3
            · cases h
          · cases h
        · cases h
      · cases h
    · cases h
  -- entryStore
  · rename_i t m s x
    split at h
    · rename_i b k n u hm hs hx
      split at h
      · rename_i es clock hb
        split at h
        · rename_i j hj
          split at h
          · rename_i e0 he0
            cases h
            obtain ⟨c, base, y, oc, hβ, q1, q2⟩ := entryStore_sound (P := P) w hR (hF.eval hm) (hF.eval hs) (hF.eval hx) t hb hj he0
            exact Wrote.change hR hβ hb (w' := { w with heap := w.heap.setIfInBounds c oc }) rfl rfl rfl rfl q2 (n := .skip) (by simp [execOp, q1]) (.inr ⟨rfl, rfl⟩) (VR.undef β)
          · cases h
        · cases h
      · cases h
    · cases h
  -- append
  · rename_i args argTypes
    split at h
    · rename_i s x st xt hargs ht0 ht1
      split at h
      · rename_i i xi sv xv hi hxi hs hx
        split at h
        · cases h
        · rename_i e hd hnx
          split at h
          · rename_i ei hei
            obtain ⟨β', v', w', q1, q2, q3, q4⟩ := append_sound w T hR hi hd hxi (fun k hk => hnx k hk) hei (hF.eval hs) (hF.eval hx) h argTypes ht0 ht1 ty
            refine ⟨β', w', .value v', v', ?_, .inl rfl, q2, q3, q4⟩
            simp only [execOp, resolve, args_two hargs, Sem.run_bind, Sem.run_pure, Result.andThen_ok, invoke, builtin, q1]
          · cases h
        · cases h
      · cases h
    · cases h
  -- copy
  · rename_i args argTypes
    split at h
    · rename_i d x dt hargs ht0
      split at h
      · rename_i i dv xv hi hdv hx
        split at h
        · rename_i e hd
          split at h
          · rename_i ei hei
            obtain ⟨β', v', w', q1, q2, q3, q4⟩ := copy_sound w T hR hi hd hei (hF.eval hdv) (hF.eval hx) h argTypes ht0 ty
            refine ⟨β', w', .value v', v', ?_, .inl rfl, q2, q3, q4⟩
            simp only [execOp, resolve, args_two hargs, Sem.run_bind, Sem.run_pure, Result.andThen_ok, invoke, builtin, q1]
          · cases h
        · cases h
      · cases h
    · cases h
  -- delete
  · rename_i args argTypes
    split at h
    · rename_i m k t hargs ht0
      split at h
      · rename_i i mv kv hi hm hk
        split at h
        · rename_i kt et hd
          split at h
          · rename_i ki hki
            split at h
            · rename_i hok
              split at h
              · cases h
                have rm := hF.eval hm
                have e1 : a.eval m = .map none := by cases e : a.eval m <;> rw [e] at rm <;> cases rm; rfl
                refine ⟨β, w, .value (.tuple #[]), .tuple #[], ?_, .inl rfl, VR.undef β, hR, Ext.refl _ _ _ _⟩
                simp only [execOp, resolve, args_two hargs, Sem.run_bind, Sem.run_pure, Result.andThen_ok, invoke, builtin, e1, delete_nil T w hi hd hki (hF.eval hk) hok ty argTypes ht0]
              · rename_i b
                split at h
                · rename_i es clock hb
                  split at h
                  · rename_i j u0 hf
                    cases h
                    obtain ⟨c, base, n, oc, hβ, q1, q2⟩ := delete_sound T w hR hi hd hki (hF.eval hm) (hF.eval hk) hok hb hf ty argTypes ht0
                    exact Wrote.change hR hβ hb (w' := { w with heap := w.heap.setIfInBounds c oc }) rfl rfl rfl rfl q2 (n := .value (.tuple #[])) (by simp only [execOp, resolve, args_two hargs, Sem.run_bind, Sem.run_pure, Result.andThen_ok, invoke, builtin, q1]) (.inl rfl) (VR.undef β)
                  · rename_i hf
                    cases h
                    obtain ⟨c, base, n, oc, hβ, q1, q2⟩ := delete_sound T w hR hi hd hki (hF.eval hm) (hF.eval hk) hok hb hf ty argTypes ht0
                    have hW := Wrote.change hR hβ hb (w' := { w with heap := w.heap.setIfInBounds c oc }) rfl rfl rfl rfl q2 (n := .value (.tuple #[])) (r := (execOp a.eval { dst := dst, op := Op.call { callee := Callee.builtin Builtin.delete, args := args, argTypes := argTypes }, type := ty, pos := pos, after := after, guard := guard }).run P w) (by simp only [execOp, resolve, args_two hargs, Sem.run_bind, Sem.run_pure, Result.andThen_ok, invoke, builtin, q1]) (.inl rfl) (VR.undef β)
                    obtain ⟨β', w', nn, v', g1, g2, g3, g4, g5⟩ := hW
                    refine ⟨β', w', nn, v', g1, g2, g3, g4.less (by simp) (fun d o' hg => ?_), { g5 with live := fun d o' hg _ => ⟨o', hg⟩, next := Nat.le_refl _ }⟩
                    rw [AHeap.get_set]
                    split
                    · rename_i e0; subst e0; rw [← hg]; exact hb.symm
                    · exact hg
                  · cases h
                · cases h
              · cases h
            · cases h
          · cases h
        · cases h
      · cases h
    · cases h
  · cases h

end Go.Sx

/-
  SX, part 14: one operation, whichever it is; the operations of a region in the order of the text.
-/
namespace Go.Sx

/-- Blocks of the world that no abstract block is: they stay as they are (the library's variables, and whatever else is not looked into). -/
abbrev Base := List (Nat × Obj)

def Base.At (B : Base) (β : Emb) (H : AHeap) (w : World) : Prop := ∀ p ∈ B, w.heap[p.1]? = some p.2 ∧ ∀ b o x, H.get b = some o → β b = some x → x.1 ≠ p.1

theorem Base.At.ext {B : Base} {nx : Nat} {β β' : Emb} {H H' : AHeap} {w w' : World} (h : B.At β H w) (hE : Ext nx β β' H H' w w') (hd : ∀ b x, β b = some x → b < H.next ∧ x.1 < w.heap.size) : B.At β' H' w' := by
  intro p hp
  obtain ⟨h1, h2⟩ := h p hp
  have hlt : p.1 < w.heap.size := (Array.getElem?_eq_some_iff.1 h1).1
  refine ⟨(hE.frame p.1 hlt h2).trans h1, fun b o x hg hb => ?_⟩
  rcases hE.new b x hb with g | ⟨_, g | ⟨b0, o0, x0, g1, g2, g3⟩⟩
  · obtain ⟨o', ho'⟩ := hE.live b o hg (hd b x g).1
    exact h2 b o' x ho' g
  · omega
  · have := h2 b0 o0 x0 g1 g2
    omega

/-- What the interpreter answers for a call, the function does. -/
def CallOk (P : Program) (B : Base) (call : CallFn) : Prop :=
  ∀ f args H v H', call f args H = some (v, H') →
    (∀ (vs : Array Value) (w : World), (callFunc f vs).run P w = .ok (.enter f vs) w) ∧
    ∀ (β : Emb) (w : World) (vs : Array Value), B.At β H w → Rel β H w.heap → VRs β args vs.toList →
      Calls P f vs w fun e w' => ∃ β' v', e = .returned v' ∧ VR β' v v' ∧ Rel β' H' w'.heap ∧ Ext H.next β β' H H' w w'

section
variable {P : Program} {B : Base} {cfg : Cfg} {β : Emb} {w : World}

theorem callFunc_enter {f : FuncId} {fn : Func} (h : P.funcs[f]? = some fn) (hb : fn.body.isNone = false) (hn : (fn.name == "runtime.NumGoroutine") = false) (vs : Array Value) :
    (callFunc f vs).run P w = .ok (.enter f vs) w := by
  simp only [callFunc, Sem.run_bind, run_program, Result.andThen_ok, h, hn, hb, Bool.false_eq_true, if_false, Sem.run_pure]

theorem ssa_run (ts : Array TypeId) (t : TypeId) (a : Addr) (x y : String) : (Builtin.ssaWrapNilChk_ ts t #[.pointer (some a), strVal x, strVal y]).run P w = .ok (.pointer (some a)) w := rfl

theorem findMethod_recv (T : TyOk P cfg.types) {t : TypeId} {i : TInfo} (hi : cfg.types t = some i) {name : String} {g : FuncId} {p : Bool} (hm : findMethod i.methods name = some (g, p)) {H : AHeap} (hR : Rel β H w.heap)
    {v recv : AVal} {v' : Value} (hv : VR β v v') (hr : aRecv cfg H i p v = some recv) (fuel : Nat) :
    ∃ r', (method (fuel + 1) t v' name).run P w = .ok (g, r') w ∧ VR β recv r' := by
  obtain ⟨ti, m, h1, h2, h3, h4⟩ := T.methods t i name g p hi hm
  have hu := T.run_underlying hi w
  unfold aRecv at hr
  split at hr
  · rename_i e hd
    cases hr
    refine ⟨v', ?_, hv⟩
    simp only [method, typeInfo, Sem.run_bind, run_program, Result.andThen_ok, h1, h2, Sem.run_pure, h3, follow, Array.toList_empty, h4, receiverAt, hu, hd, Place.get]
  · rename_i e b off hd
    split at hr
    · rename_i ei vs ro ty hei hb
      obtain ⟨c, base, n, rfl, hβ⟩ := hv.ptr_inv
      obtain ⟨u', ad, q0, q1, q2⟩ := load_sound T w hR hei hv hb hr
      cases q0
      refine ⟨u', ?_, q2⟩
      simp only [method, typeInfo, Sem.run_bind, run_program, Result.andThen_ok, h1, h2, Sem.run_pure, h3, follow, Array.toList_empty, h4, receiverAt, hu, hd, Place.get, Array.isEmpty_empty, if_true, ssa_run, asAddr, q1]
    · cases hr
  · cases hr

theorem target_sound (T : TyOk P cfg.types) {fr : AFrame} {a : Act} (hF : FrR β fr a.tmps) {H : AHeap} (hR : Rel β H w.heap) {o : Oper} {c : Call} (ho : o.op = .call c) {f : FuncId} {args : List AVal} (h : aTarget cfg fr H c = some (f, args))
    (hfn : ∀ (vs : Array Value) (w : World), (callFunc f vs).run P w = .ok (.enter f vs) w) :
    ∃ vs : Array Value, (execOp a.eval o).run P w = .ok (.enter f vs) w ∧ VRs β args vs.toList := by
  obtain ⟨dst, op, ty, pos, after, guard⟩ := o
  simp only at ho
  subst ho
  obtain ⟨callee, as, ts⟩ := c
  unfold aTarget at h
  split at h
  · cases h
  · rename_i x hc
    simp only at hc
    subst hc
    split at h
    · rename_i g first captured args' hx ha
      cases h
      have hv := hF.eval hx
      have hA := getAll_R hF ha
      generalize hq : a.eval x = q at hv
      cases hv with
      | func _ _ _ a' b' h1 h2 =>
        refine ⟨a' ++ as.map a.eval ++ b', ?_, ?_⟩
        · simp only [execOp, resolve, hq, Deferred.ofValue, Sem.run_bind, Sem.run_pure, Result.andThen_ok, invoke, hfn]
        · simp only [Array.toList_append, Array.toList_map]
          exact (h1.append hA).append h2
    · cases h
  · rename_i r name hc
    simp only at hc
    subst hc
    split at h
    · rename_i t v args' hx ha
      split at h
      · rename_i i hi
        split at h
        · rename_i g p hm
          split at h
          · rename_i recv hr
            cases h
            have hv := hF.eval hx
            have hA := getAll_R hF ha
            generalize hq : a.eval r = q at hv
            cases hv with
            | iface _ _ v' hv =>
              obtain ⟨r', q1, q2⟩ := findMethod_recv T hi hm hR hv hr (P.types.size + 99)
              have hfuel : P.types.size + Made.depth = P.types.size + 99 + 1 := rfl
              refine ⟨#[r'] ++ as.map a.eval, ?_, ?_⟩
              · have e0 : (#[Value.iface t v'] ++ as.map a.eval)[0]? = some (.iface t v') := by rw [Array.getElem?_append_left (show 0 < #[Value.iface t v'].size from Nat.zero_lt_one)]; rfl
                have e1 : (#[Value.iface t v'] ++ as.map a.eval).extract 1 (#[Value.iface t v'] ++ as.map a.eval).size = as.map a.eval := by
                  apply Array.ext'
                  simp only [Array.toList_extract, Array.toList_append, Array.size_append, Array.size_map, List.size_toArray, List.length_cons, List.length_nil, Array.toList_map]
                  simp
                  exact List.take_of_length_le (by simp)
                simp only [execOp, resolve, hq, Sem.run_bind, Sem.run_pure, Result.andThen_ok, invoke, e0, e1, callMethod, run_program, hfuel, q1, hfn]
              · simp only [Array.toList_append, Array.toList_map]
                exact .cons _ _ _ _ q2 hA
          · cases h
        · cases h
      · cases h
    · cases h

/-! ### The frame and the region's guards -/

theorem put_get (fr : AFrame) (dst : Option Tmp) (v : AVal) (t : Nat) : (put fr dst v)[t]? = if dst = some t ∧ t < fr.length then some v else fr[t]? := by
  cases dst with
  | none => simp [put]
  | some d =>
    simp only [put, List.getElem?_set]
    by_cases h : d = t
    · subst h
      by_cases h2 : d < fr.length
      · simp [h2]
      · simp [h2]
    · simp [h]

theorem put_length (fr : AFrame) (dst : Option Tmp) (v : AVal) : (put fr dst v).length = fr.length := by
  cases dst <;> simp [put]

theorem FrR.put {fr : AFrame} {a : Act} (h : FrR β fr a.tmps) (dst : Option Tmp) {v : AVal} {v' : Value} (hv : VR β v v') : FrR β (put fr dst v) (a.put dst v').tmps := by
  have hl := VRs.length h
  refine VRs.of_get ?_ fun i x hx => ?_
  · rw [put_length, hl]
    cases dst <;> simp [Act.put]
  · rw [put_get] at hx
    cases dst with
    | none =>
      simp only [Act.put]
      rw [if_neg (by simp)] at hx
      exact VRs.get h hx
    | some d =>
      simp only [Act.put]
      split at hx
      · rename_i hc
        obtain ⟨h1, h2⟩ := hc
        cases h1
        cases hx
        refine ⟨v', ?_, hv⟩
        rw [hl] at h2
        rw [Array.getElem?_toList]
        rw [Array.getElem?_setIfInBounds_self_of_lt (by simpa using h2)]
      · rename_i hc
        obtain ⟨u, hu, hr⟩ := VRs.get h hx
        refine ⟨u, ?_, hr⟩
        by_cases hd : d = i
        · subst hd
          exfalso
          exact hc ⟨rfl, (List.getElem?_eq_some_iff.1 hx).1⟩
        · rw [Array.getElem?_toList] at hu ⊢
          rw [Array.getElem?_setIfInBounds_ne hd]
          exact hu

theorem wanted_eq {fr : AFrame} {tmps : Array Value} (h : FrR β fr tmps) (ops : Array Oper) (o : Oper) : Region.wanted o (yielded ops tmps) = aWanted ops.toList fr o := by
  obtain ⟨dst, op, ty, pos, after, guard⟩ := o
  cases guard with
  | none => rfl
  | some g =>
    obtain ⟨j, want⟩ := g
    simp only [Region.wanted, aWanted, Array.getElem?_toList]
    unfold yielded
    cases hj : ops[j]? with
    | none => simp
    | some g =>
      simp only [Option.bind_some]
      cases hd : g.dst with
      | none => simp
      | some d =>
        simp only [Option.bind_some]
        cases hf : fr[d]? with
        | none =>
          have : tmps[d]? = none := by
            rw [List.getElem?_eq_none_iff, VRs.length h] at hf
            exact Array.getElem?_eq_none (by simpa using hf)
          rw [this]
          simp
        | some v =>
          obtain ⟨u, hu, hr⟩ := VRs.get h hf
          have hu' : tmps[d]? = some u := by simpa using hu
          rw [hu']
          cases hr <;> first | (simp; done) | (rename_i s hok hv; rcases Scal.cases_VR hv with ⟨b, rfl⟩ | ⟨k, n, rfl⟩ <;> simp)

/-! ### One operation -/

theorem kindOf_call {o : Op} (h : kindOf o = .call) : ∃ c, o = .call c := by
  unfold kindOf at h
  split at h
  · split at h <;> cases h
  · exact ⟨_, rfl⟩
  all_goals cases h

/-- An operation that the interpreter does, the model does. -/
theorem op_step (T : TyOk P cfg.types) {call : CallFn} (hC : CallOk P B call) {H : AHeap} (hB : B.At β H w) {name : Nat} {fr : AFrame} {a : Act} (hF : FrR β fr a.tmps) (hR : Rel β H w.heap) {o : Oper} {v : AVal} {H' : AHeap} (h : aOp cfg call name fr H o.op = some (v, H'))
    {β0 : Emb} {H0 : AHeap} {w0 : World} (hE : Ext H0.next β0 β H0 H w0 w) (hd : ∀ b x, β0 b = some x → b < H0.next ∧ x.1 < w0.heap.size) (hname : isAlloc o.op = true → β name = none ∧ name < H.next ∧ H0.next ≤ name)
    {K : Act → World → Prop} {Q : Exit → Act → World → Prop}
    (hK : ∀ β' v' w', β.le β' → VR β' v v' → Rel β' H' w'.heap → Ext H0.next β0 β' H0 H' w0 w' → H.next ≤ H'.next → (∀ k, k < H.next → β k = none → (isAlloc o.op = true ∧ k = name) ∨ β' k = none) → K (a.put o.dst v') w') :
    o.wp P a w K Q := by
  have quiet : ∀ {v : AVal}, aValue cfg.types fr H o.op = some v → ∃ v', (execOp a.eval o).run P w = .ok (.value v') w ∧ VR β v v' := by
    intro v h
    unfold aValue at h
    split at h
    · rename_i u hu
      cases h
      exact pure_sound T w hF o hu
    · exact read_sound T w hF hR o h
  have hq : ∀ {v : AVal}, aValue cfg.types fr H o.op = some v → (∀ v', VR β v v' → K (a.put o.dst v') w) → o.wp P a w K Q := by
    intro v h hk
    obtain ⟨v', h1, h2⟩ := quiet h
    unfold Oper.wp
    rw [h1]
    exact hk v' h2
  unfold aOp at h
  split at h
  · rename_i hk
    split at h
    · rename_i u hu
      cases h
      exact hq hu fun v' hv => hK β v' w β.le_refl hv hR hE (Nat.le_refl _) fun k _ hn => .inr hn
    · cases h
  · rename_i hk
    split at h
    · rename_i u hu
      cases h
      exact hq hu fun v' hv => hK β v' w β.le_refl hv hR hE (Nat.le_refl _) fun k _ hn => .inr hn
    · cases h
  · rename_i hk
    split at h
    · rename_i obj ans ha
      cases h
      obtain ⟨oc, n, v', h1, h2, h3⟩ := alloc_sound T w hF o ha
      have hal : isAlloc o.op = true := by unfold isAlloc; rw [hk]
      obtain ⟨hb, hn, hm⟩ := hname hal
      have hle := Emb.le_upd hb (w.heap.size, 0, n)
      unfold Oper.wp
      rw [h1]
      have hnew : (w.alloc oc).heap[w.heap.size]? = some oc := push_new
      refine hK (β.upd name (w.heap.size, 0, n)) v' (w.alloc oc) hle (h2 _ _ hle (Emb.upd_same _ _ _)) ?_ ?_ (by simp) ?_
      · refine (hR.push oc).add hb hn (by simp) (h3 _ _ hle hnew) ?_
        intro c o' y hg hc he
        have := (hR.dom c y hc).2
        simp only at he
        omega
      · refine ⟨Emb.le_trans hE.le hle, ?_, ?_, ?_, ?_, hE.tape, hE.os, hE.output, by simpa using hE.next⟩
        · intro b x hb
          unfold Emb.upd at hb
          split at hb
          · rename_i e; cases hb; subst e; exact .inr ⟨hm, .inl hE.size⟩
          · exact hE.new b x hb
        · intro b o' hg hb
          rw [AHeap.get_set] at hg
          split at hg
          · omega
          · exact hE.live b o' hg hb
        · have := hE.size
          show w0.heap.size ≤ (w.heap.push oc).size
          simp
          omega
        · intro c hc hne
          rw [← hE.frame c hc hne]
          exact push_old (Nat.lt_of_lt_of_le hc hE.size)
      · intro k hk hn
        by_cases e : k = name
        · exact .inl ⟨hal, e⟩
        · refine .inr ?_
          unfold Emb.upd
          rw [if_neg e]
          exact hn
    · cases h
  · rename_i hk
    obtain ⟨β', w', n, v', h1, h2, h3, h4, h5⟩ := write_sound w T hF hR o h
    have hx := hE.trans h5 hE.next hd
    have hnew : ∀ k, k < H.next → β k = none → (isAlloc o.op = true ∧ k = name) ∨ β' k = none := by
      intro k hk hn
      refine .inr ?_
      cases hq : β' k with
      | none => rfl
      | some x =>
        rcases h5.new k x hq with h | ⟨h, _⟩
        · rw [hn] at h; cases h
        · omega
    unfold Oper.wp
    rw [h1]
    rcases h2 with rfl | ⟨rfl, rfl⟩
    · exact hK β' v' w' h5.le h3 h4 hx h5.next hnew
    · exact hK β' undef w' h5.le h3 h4 hx h5.next hnew
  · rename_i hk
    split at h
    · rename_i c hc
      split at h
      · rename_i f args ht
        obtain ⟨hfn, hcall⟩ := hC f args H v H' h
        obtain ⟨vs, h1, h2⟩ := target_sound T hF hR hc ht hfn
        unfold Oper.wp
        rw [h1]
        refine Calls.mono (hcall β w vs hB hR h2) fun e w' he => ?_
        obtain ⟨β', v', rfl, h3, h4, h5⟩ := he
        refine hK β' v' w' h5.le h3 h4 (hE.trans h5 hE.next hd) h5.next fun k hk hn => .inr ?_
        cases hq : β' k with
        | none => rfl
        | some x =>
          rcases h5.new k x hq with h | ⟨h, _⟩
          · rw [hn] at h; cases h
          · omega
      · cases h
    · cases h

/-! ### The operations in the order of the text -/

theorem seq_sound (T : TyOk P cfg.types) {call : CallFn} (hC : CallOk P B call) {ops : Array Oper} {β0 : Emb} {H0 : AHeap} {w0 : World} (hB : B.At β0 H0 w0) (hd : ∀ b x, β0 b = some x → b < H0.next ∧ x.1 < w0.heap.size) {Q : Exit → Act → World → Prop} :
    ∀ (l : List Oper) (name : Nat) (fr : AFrame) (H : AHeap) (β : Emb) (a : Act) (w : World) (fr' : AFrame) (H' : AHeap), aSeq cfg call ops.toList l name fr H = some (fr', H') → FrR β fr a.tmps → Rel β H w.heap → Ext H0.next β0 β H0 H w0 w →
      H0.next ≤ name → name + countAllocs l ≤ H.next → (∀ k, name ≤ k → k < name + countAllocs l → β k = none) →
      (∀ β' a' w', a'.defers = a.defers → FrR β' fr' a'.tmps → Rel β' H' w'.heap → Ext H0.next β0 β' H0 H' w0 w' → Q .normal a' w') → wpList P ops Q l a w := by
  intro l
  induction l with
  | nil =>
    intro name fr H β a w fr' H' h hF hR hE _ _ _ hQ
    cases h
    exact hQ β a w rfl hF hR hE
  | cons o l ih =>
    intro name fr H β a w fr' H' h hF hR hE h0 hn hfree hQ
    unfold aSeq at h
    unfold wpList
    rw [wanted_eq hF]
    split at h
    · rename_i hw
      rw [if_pos hw]
      split at h
      · rename_i v H1 ho
        refine .inl (op_step T hC (hB.ext hE hd) hF hR ho hE hd (fun ha => ?_) fun β' v' w' hle hv hR' hE' hnx hfr => ?_)
        · refine ⟨hfree name (Nat.le_refl _) ?_, ?_, h0⟩
          · simp only [countAllocs, ha, if_true]; omega
          · simp only [countAllocs, ha, if_true] at hn; omega
        · refine ih _ _ _ β' _ w' fr' H' h (FrR.put (VRs.mono hle hF) o.dst hv) hR' hE' ?_ ?_ ?_ ?_
          · split <;> omega
          · simp only [countAllocs] at hn
            split at hn <;> rename_i ha
            · rw [if_pos ha]; omega
            · rw [if_neg ha]; omega
          · intro k hk1 hk2
            simp only [countAllocs] at hn hfree
            split at hn <;> rename_i ha
            · rw [if_pos ha] at hk1 hk2
              rw [if_pos ha] at hfree
              rcases hfr k (by omega) (hfree k (by omega) (by omega)) with ⟨_, e⟩ | h
              · omega
              · exact h
            · rw [if_neg ha] at hk1 hk2
              rw [if_neg ha] at hfree
              rcases hfr k (by omega) (hfree k (by omega) (by omega)) with ⟨e, _⟩ | h
              · exact absurd e ha
              · exact h
          · intro β'' a' w'' hdf
            refine hQ β'' a' w'' (hdf.trans ?_)
            cases o.dst <;> rfl
      · cases h
    · rename_i hw
      rw [if_neg hw]
      refine ih _ _ _ β _ w fr' H' h (FrR.put hF o.dst (VR.undef β)) hR hE ?_ ?_ ?_ ?_
      · split <;> omega
      · simp only [countAllocs] at hn
        split at hn <;> rename_i ha
        · rw [if_pos ha]; omega
        · rw [if_neg ha]; omega
      · intro k hk1 hk2
        simp only [countAllocs] at hfree
        split at hfree <;> rename_i ha
        · rw [if_pos ha] at hk1 hk2
          exact hfree k (by omega) (by omega)
        · rw [if_neg ha] at hk1 hk2
          exact hfree k (by omega) (by omega)
      · intro β'' a' w'' hdf
        refine hQ β'' a' w'' (hdf.trans ?_)
        cases o.dst <;> rfl

/-- A region that does not draw. -/
theorem region_seq_sound (T : TyOk P cfg.types) {call : CallFn} (hC : CallOk P B call) {id : Nat} {ops : Array Oper} {fr fr' : AFrame} {H H' : AHeap} (hB : B.At β H w) {a : Act} (h : aRegion cfg call ops.toList false fr H = some (fr', H')) (hF : FrR β fr a.tmps) (hR : Rel β H w.heap) {Q : Exit → Act → World → Prop}
    (hQ : ∀ β' a' w', a'.defers = a.defers → FrR β' fr' a'.tmps → Rel β' H' w'.heap → Ext H.next β β' H H' w w' → Q .normal a' w') : (Code.region id ops false).wp P Q a w := by
  refine wp_region_list ?_
  refine seq_sound T hC (β0 := β) hB (H0 := H) (w0 := w) hR.dom ops.toList H.next fr (H.bump (countAllocs ops.toList)) β a w fr' H' h hF (hR.bump _) ?_ (Nat.le_refl _) (Nat.le_refl _) ?_ hQ
  · exact (Ext.refl _ _ _ _).swap (fun b o hg _ => ⟨o, hg⟩) (by simp)
  · intro k hk _
    cases hq : β k with
    | none => rfl
    | some x => have := (hR.dom k x hq).1; omega

end
end Go.Sx
