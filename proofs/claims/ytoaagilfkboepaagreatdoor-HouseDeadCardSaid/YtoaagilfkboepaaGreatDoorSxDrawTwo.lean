/-
  SX, part 18: the certificate: for each operation of a region that draws, what it answers whenever it is its turn.
-/
import Derived.Test.YtoaagilfkboepaaGreatDoorSxDrawOne
import Derived.Orders
set_option linter.unusedSimpArgs false
set_option linter.unusedVariables false
namespace Go.Sx

/-- The frame when a set of operations is done: of the slots that these write, the last frame's; else the first one's. -/
def mixv (all : List Item) (fr0 frF : AFrame) (p : Nat → Bool) (t : Nat) : Option AVal :=
  if all.any (fun x => x.o.dst == some t && p x.i) then frF[t]? else fr0[t]?

def mix (all : List Item) (fr0 frF : AFrame) (p : Nat → Bool) : AFrame := (List.range fr0.length).map fun t => (mixv all fr0 frF p t).getD (.tuple [])

section
variable {all : List Item} {fr0 frF : AFrame}

theorem mix_length (p : Nat → Bool) : (mix all fr0 frF p).length = fr0.length := by simp [mix]

theorem mix_get (hl : frF.length = fr0.length) (p : Nat → Bool) (t : Nat) : (mix all fr0 frF p)[t]? = mixv all fr0 frF p t := by
  unfold mix
  rw [List.getElem?_map]
  by_cases h : t < fr0.length
  · rw [List.getElem?_range h, Option.map_some]
    unfold mixv
    split
    · rw [List.getElem?_eq_getElem (by omega)]; rfl
    · rw [List.getElem?_eq_getElem h]; rfl
  · rw [List.getElem?_eq_none (by simpa using h)]
    unfold mixv
    split
    · rw [List.getElem?_eq_none (by omega)]; rfl
    · rw [List.getElem?_eq_none (by omega)]; rfl

theorem mixv_in {p : Nat → Bool} {t : Nat} {x : Item} (hx : x ∈ all) (hd : x.o.dst = some t) (hp : p x.i = true) : mixv all fr0 frF p t = frF[t]? := by
  unfold mixv
  rw [if_pos]
  rw [List.any_eq_true]
  exact ⟨x, hx, by simp [hd, hp]⟩

theorem mixv_out {p : Nat → Bool} {t : Nat} (h : ∀ x ∈ all, x.o.dst = some t → p x.i = false) : mixv all fr0 frF p t = fr0[t]? := by
  unfold mixv
  rw [if_neg]
  rw [List.any_eq_true]
  rintro ⟨x, hx, hb⟩
  rw [Bool.and_eq_true, beq_iff_eq] at hb
  rw [h x hx hb.1] at hb
  cases hb.2

end

section
variable {ops : List Oper} {nx : Nat}

theorem shut_zero (all : List Item) {s : DSt} (h : s.done = 0) : Shut all fun j => s.done.testBit j := by
  intro x hx hb
  simp only [h, Nat.zero_testBit] at hb
  cases hb

/-- When it is an operation's turn, its slots read as the certificate's frame has them. -/
theorem frame_at (D : DrawOk ops nx) {s0 s F : DSt} (hs0 : s0.done = 0) (h0 : Reach (drawItems ops nx) s0 s) (h1 : Reach (drawItems ops nx) s F) {x : Item} (hx : x ∈ drawItems ops nx) (hn : s.done.testBit x.i = false)
    (hm : ∀ j, x.m.testBit j = true → s.done.testBit j = true) : ∀ t ∈ looks ops x.o, s.fr[t]? = (mix (drawItems ops nx) s0.fr F.fr fun j => x.m.testBit j)[t]? := by
  intro t ht
  rw [mix_get (h0.trans h1).length]
  by_cases hw : ∃ y ∈ drawItems ops nx, y.o.dst = some t ∧ x.m.testBit y.i = true
  · obtain ⟨y, hy, hd, hb⟩ := hw
    rw [mixv_in hy hd hb]
    refine (h1.keep fun z hz hzd => .inl ?_).symm
    by_cases e : z.i = y.i
    · rw [e]; exact hm _ hb
    · exact absurd hd (D.dst z hz y hy e t hzd)
  · rw [mixv_out fun y hy hd => by
      cases hb : x.m.testBit y.i with
      | false => rfl
      | true => exact absurd ⟨y, hy, hd, hb⟩ hw]
    refine h0.keep fun z hz hzd => .inr ?_
    cases hb : s.done.testBit z.i with
    | false => rfl
    | true =>
      exfalso
      have hne : z.i ≠ x.i := by intro e; rw [e, hn] at hb; cases hb
      rcases D.dep z hz x hx hne t hzd ht with h2 | h2
      · exact hw ⟨z, hz, hzd, h2⟩
      · have := h0.shut (shut_zero _ hs0) z hz hb x.i h2
        simp only [hn] at this
        cases this

/-- What was put stays. -/
theorem put_at (D : DrawOk ops nx) {s1 s2 F : DSt} {x : Item} (hx : x ∈ drawItems ops nx) {v : AVal} (hf : s2.fr = put s1.fr x.o.dst v) (hd : s2.done.testBit x.i = true) (h : Reach (drawItems ops nx) s2 F) :
    ∀ t, x.o.dst = some t → t < s1.fr.length → F.fr[t]? = some v := by
  intro t ht hl
  rw [h.keep, hf, put_get, if_pos ⟨ht, hl⟩]
  intro z hz hzd
  by_cases e : z.i = x.i
  · rw [e]; exact .inl hd
  · exact absurd ht (D.dst z hz x hx e t hzd)

end

/-- What is put into an operation's slot. -/
def Put (fr0 : AFrame) (F : DSt) (x : Item) (v : AVal) : Prop := ∀ t, x.o.dst = some t → t < fr0.length → F.fr[t]? = some v

/-- What a quiet operation answers. -/
inductive QFact (cfg : Cfg) (ops : List Oper) (nx : Nat) (fr0 : AFrame) (F : DSt) (S : Nat → DSt) (x : Item) (k : Nat) : Prop
  | skip (hw : aWanted ops (mix (drawItems ops nx) fr0 F.fr fun j => x.m.testBit j) x.o = false) (hp : Put fr0 F x (.tuple []))
  | value (v : AVal) (hw : aWanted ops (mix (drawItems ops nx) fr0 F.fr fun j => x.m.testBit j) x.o = true) (ha : isAlloc x.o.op = false) (hp : Put fr0 F x v)
      (h : aPure cfg.types (mix (drawItems ops nx) fr0 F.fr fun j => x.m.testBit j) x.o.op = some v ∨
        ∀ k', countIn (effItems (drawItems ops nx)) x.m ≤ k' → k' ≤ k → aRead cfg.types (mix (drawItems ops nx) fr0 F.fr fun j => x.m.testBit j) (S k').H x.o.op = some v)
  | alloc (obj : AObj) (ans : Nat → AVal) (hw : aWanted ops (mix (drawItems ops nx) fr0 F.fr fun j => x.m.testBit j) x.o = true) (ha : isAlloc x.o.op = true)
      (h : aAlloc cfg.types (mix (drawItems ops nx) fr0 F.fr fun j => x.m.testBit j) x.o.op = some (obj, ans)) (hp : Put fr0 F x (ans x.name))

/-- What an operation with an effect does. -/
inductive EFact (cfg : Cfg) (call : CallFn) (ops : List Oper) (nx : Nat) (fr0 : AFrame) (F : DSt) (S T : Nat → DSt) (x : Item) (k : Nat) : Prop
  | skip (hw : aWanted ops (mix (drawItems ops nx) fr0 F.fr fun j => x.m.testBit j) x.o = false) (hp : Put fr0 F x (.tuple [])) (hH : (S (k + 1)).H = (T k).H)
  | step (v : AVal) (hw : aWanted ops (mix (drawItems ops nx) fr0 F.fr fun j => x.m.testBit j) x.o = true) (hp : Put fr0 F x v)
      (h : aOp cfg call x.name (mix (drawItems ops nx) fr0 F.fr fun j => x.m.testBit j) (T k).H x.o.op = some (v, (S (k + 1)).H))

structure Cert (cfg : Cfg) (call : CallFn) (ops : List Oper) (fr0 : AFrame) (H : AHeap) (F : DSt) (S T : Nat → DSt) : Prop where
  s0 : (S 0).done = 0
  h0 : (S 0).H = H.bump (countAllocs ops)
  fin : T (effItems (drawItems ops H.next)).length = F
  full : ∀ x ∈ drawItems ops H.next, F.done.testBit x.i = true
  len : F.fr.length = fr0.length
  bare : ∀ t, (∀ x ∈ drawItems ops H.next, x.o.dst ≠ some t) → F.fr[t]? = fr0[t]?
  doneS : ∀ k, k ≤ (effItems (drawItems ops H.next)).length → ∀ x ∈ drawItems ops H.next, (S k).done.testBit x.i = true →
    ∃ q e, q < k ∧ (effItems (drawItems ops H.next))[q]? = some e ∧ (e.i = x.i ∨ e.m.testBit x.i = true)
  sub : ∀ k, k ≤ (effItems (drawItems ops H.next)).length → ∀ j, (S k).done.testBit j = true → (T k).done.testBit j = true
  next : ∀ (k : Nat) x, (effItems (drawItems ops H.next))[k]? = some x → (S (k + 1)).done = (T k).done ||| 2 ^ x.i
  need : ∀ (k : Nat) e, (effItems (drawItems ops H.next))[k]? = some e → ∀ x ∈ drawItems ops H.next, (S k).done.testBit x.i = false → (T k).done.testBit x.i = true → e.m.testBit x.i = true
  quiet : ∀ x ∈ drawItems ops H.next, isEffect x.o.op = false → ∃ k, k ≤ (effItems (drawItems ops H.next)).length ∧ (S k).done.testBit x.i = false ∧ (T k).done.testBit x.i = true ∧ QFact cfg ops H.next fr0 F S x k
  eff : ∀ (k : Nat) e, (effItems (drawItems ops H.next))[k]? = some e → EFact cfg call ops H.next fr0 F S T e k
  heap : ∀ k, k ≤ (effItems (drawItems ops H.next)).length → (T k).H.next = (S k).H.next ∧ ∀ b o, (T k).H.get b = some o → (S k).H.get b = some o ∨
    ∃ x ∈ drawItems ops H.next, (S k).done.testBit x.i = false ∧ (T k).done.testBit x.i = true ∧ b = x.name ∧ isAlloc x.o.op = true ∧
      aWanted ops (mix (drawItems ops H.next) fr0 F.fr fun j => x.m.testBit j) x.o = true ∧ ∃ ans, aAlloc cfg.types (mix (drawItems ops H.next) fr0 F.fr fun j => x.m.testBit j) x.o.op = some (o, ans)

theorem mem_effs {all : List Item} {k : Nat} {e : Item} (h : (effItems all)[k]? = some e) : e ∈ all ∧ isEffect e.o.op = true := by
  have := List.mem_of_getElem? h
  unfold effItems at this
  rw [List.mem_filter] at this
  exact this

set_option maxHeartbeats 1000000 in
theorem cert_of_run {cfg : Cfg} {call : CallFn} {ops : List Oper} {fr0 : AFrame} {H : AHeap} {F : DSt} (D : DrawOk ops H.next)
    (h : runDraw cfg call ops (effItems (drawItems ops H.next)) (drawItems ops H.next) (2 ^ ops.length - 1) (effItems (drawItems ops H.next)) ⟨fr0, H.bump (countAllocs ops), 0, [H.bump (countAllocs ops)]⟩ = some F)
    (hF : F.done = 2 ^ ops.length - 1) : ∃ S T, Cert cfg call ops fr0 H F S T := by
  obtain ⟨S, T0, a, b, c⟩ := stages h
  generalize hm : (effItems (drawItems ops H.next)).length = m at *
  have hlt : ∀ {k : Nat} {e : Item}, (effItems (drawItems ops H.next))[k]? = some e → k < m := fun he => hm ▸ (List.getElem?_eq_some_iff.1 he).1
  have hget : ∀ {k : Nat}, k < m → ∃ e, (effItems (drawItems ops H.next))[k]? = some e := fun {k} hk => ⟨_, List.getElem?_eq_getElem (by omega)⟩
  -- the stages
  have hq : ∀ k e, (effItems (drawItems ops H.next))[k]? = some e → QRun cfg ops (drawItems ops H.next) (effItems (drawItems ops H.next)) e.m (S k) (T0 k) := fun k e he => runQuiet_spec (fun _ hx => hx) (b k e he).1
  have hqF : QRun cfg ops (drawItems ops H.next) (effItems (drawItems ops H.next)) (2 ^ ops.length - 1) (S m) F := runQuiet_spec (fun _ hx => hx) c
  have he : ∀ k e, (effItems (drawItems ops H.next))[k]? = some e → Reach (drawItems ops H.next) (T0 k) (S (k + 1)) := fun k e hk => by
    obtain ⟨h1, h2, h3, h4, v, h5, _⟩ := effectStep_spec (b k e hk).2
    exact .step (mem_effs hk).1 h1 h2 h4 h5 (.refl _)
  have hr0 : ∀ k, k ≤ m → Reach (drawItems ops H.next) (S 0) (S k) := by
    intro k
    induction k with
    | zero => intro _; exact .refl _
    | succ k ih =>
      intro hk
      obtain ⟨e, hke⟩ := hget (show k < m by omega)
      exact (ih (by omega)).trans ((hq k e hke).reach.trans (he k e hke))
  have hrF : ∀ j k, k + j = m → Reach (drawItems ops H.next) (S k) F := by
    intro j
    induction j with
    | zero => intro k hk; have : k = m := by omega
              subst this; exact hqF.reach
    | succ j ih =>
      intro k hk
      obtain ⟨e, hke⟩ := hget (show k < m by omega)
      exact (hq k e hke).reach.trans ((he k e hke).trans (ih (k + 1) (by omega)))
  have hs0 : (S 0).done = 0 := by rw [a]
  have hs0f : (S 0).fr = fr0 := by rw [a]
  -- the snapshots
  have hsn : ∀ k, k ≤ m → (S k).snaps.length = k + 1 ∧ ∀ j, j ≤ k → (S k).snaps[k - j]? = some (S j).H := by
    intro k
    induction k with
    | zero =>
      intro _
      refine ⟨by rw [a]; rfl, fun j hj => ?_⟩
      have : j = 0 := by omega
      subst this
      rw [a]; rfl
    | succ k ih =>
      intro hk
      obtain ⟨e, hke⟩ := hget (show k < m by omega)
      obtain ⟨i1, i2⟩ := ih (by omega)
      have h3 := (effectStep_spec (b k e hke).2).2.2.1
      rw [(hq k e hke).snaps] at h3
      refine ⟨by rw [h3]; simp [i1], fun j hj => ?_⟩
      by_cases e1 : j = k + 1
      · subst e1; rw [h3]; simp
      · rw [h3, show k + 1 - j = (k - j) + 1 from by omega, List.getElem?_cons_succ]
        exact i2 j (by omega)
  -- quiet steps at a stage
  have hQ : ∀ k s1 s2 x, k ≤ m → Reach (drawItems ops H.next) (S k) s1 → s1.snaps = (S k).snaps → x ∈ drawItems ops H.next → quietStep cfg ops (effItems (drawItems ops H.next)) s1 x = some s2 → Reach (drawItems ops H.next) s2 F → QFact cfg ops H.next fr0 F S x k := by
    intro k s1 s2 x hk hr hsn1 hx hstep hr2
    obtain ⟨q1, q2, q3, q4, q5, v, q6, q7⟩ := quietStep_spec hstep
    have hs1F : Reach (drawItems ops H.next) s1 F := .step hx q1 q2 q5 q6 hr2
    have hfr := frame_at D hs0 ((hr0 k hk).trans hr) hs1F hx q1 q2
    rw [hs0f] at hfr
    have hop := look_operands hfr
    have hwa := look_wanted hfr
    have hlen : s1.fr.length = fr0.length := by rw [((hr0 k hk).trans hr).length, hs0f]
    have hput : Put fr0 F x v := fun t ht hl => put_at D hx q6 (by rw [q5, bit_or]; simp) hr2 t ht (by rw [hlen]; exact hl)
    cases q7 with
    | skip hw hH => exact .skip (hwa ▸ hw) hput
    | value v hw ha hH hv =>
      refine .value v (hwa ▸ hw) ha hput ?_
      rcases hv with hv | hv
      · exact .inl (by rw [← aPure_congr hop]; exact hv)
      · refine .inr fun k' hk1 hk2 => ?_
        rw [← aRead_congr hop]
        refine readAll_all hv _ ?_
        obtain ⟨i1, i2⟩ := hsn k hk
        rw [hsn1]
        refine List.mem_of_getElem? (i := k - k') ?_
        rw [List.getElem?_take, if_pos (by rw [i1]; omega), i2 k' hk2]
    | alloc obj ans hw ha hal hH => exact .alloc obj ans (hwa ▸ hw) ha (by rw [← aAlloc_congr hop]; exact hal) hput
  -- the last stage beside the others
  let T : Nat → DSt := fun k => if k = m then F else T0 k
  have hT : ∀ k, k < m → T k = T0 k := fun k hk => if_neg (by omega)
  have hTm : T m = F := if_pos rfl
  have hne : ∀ k, k ≤ m → ∃ need, QRun cfg ops (drawItems ops H.next) (effItems (drawItems ops H.next)) need (S k) (T k) ∧ Reach (drawItems ops H.next) (T k) F := by
    intro k hk
    by_cases e : k = m
    · subst e; rw [hTm]; exact ⟨_, hqF, .refl _⟩
    · obtain ⟨x, hx⟩ := hget (show k < m by omega)
      rw [hT k (by omega)]
      exact ⟨_, hq k x hx, (he k x hx).trans (hrF (m - (k + 1)) (k + 1) (by omega))⟩
  refine ⟨S, T, hs0, by rw [a], by rw [hm]; exact hTm, ?_, ?_, ?_, ?_, ?_, ?_, ?_, ?_, ?_, ?_⟩
  · intro x hx
    rw [hF, Nat.testBit_two_pow_sub_one]
    simp [draw_lt hx]
  · have := (hrF m 0 (by omega)).length
    rw [this, hs0f]
  · intro t ht
    rw [← hs0f]
    exact (hrF m 0 (by omega)).keep fun x hx hd => absurd hd (ht x hx)
  · intro k
    induction k with
    | zero => intro _ x hx hb; rw [hs0, Nat.zero_testBit] at hb; cases hb
    | succ k ih =>
      intro hk x hx hb
      rw [hm] at hk
      obtain ⟨e, hke⟩ := hget (show k < m by omega)
      have hd := (effectStep_spec (b k e hke).2).2.2.2.1
      rw [hd, bit_or, Bool.or_eq_true, decide_eq_true_eq] at hb
      rcases hb with hb | hb
      · cases h0 : (S k).done.testBit x.i with
        | true => obtain ⟨q, f, h1, h2, h3⟩ := ih (by omega) x hx h0; exact ⟨q, f, by omega, h2, h3⟩
        | false =>
          obtain ⟨s1, s2, _, hn, _⟩ := (hq k e hke).at hx h0 hb
          exact ⟨k, e, by omega, hke, .inr hn⟩
      · exact ⟨k, e, by omega, hke, .inl hb⟩
  · intro k hk j hj
    rw [hm] at hk
    obtain ⟨_, h1, _⟩ := hne k hk
    exact h1.reach.mono hj
  · intro k x hx
    rw [hT k (hlt hx)]
    exact (effectStep_spec (b k x hx).2).2.2.2.1
  · intro k e hke x hx h0 h1
    rw [hT k (hlt hke)] at h1
    obtain ⟨_, _, _, hn, _⟩ := (hq k e hke).at hx h0 h1
    exact hn
  · intro x hx hxe
    rw [hm]
    have key : ∀ k, k ≤ m → (S k).done.testBit x.i = true ∨ (S k).done.testBit x.i = false := fun k _ => by cases (S k).done.testBit x.i <;> simp
    have hex : ∃ k, k ≤ m ∧ (S k).done.testBit x.i = false ∧ (T k).done.testBit x.i = true := by
      have : ∀ k, k ≤ m → (∃ k', k' ≤ k ∧ (S k').done.testBit x.i = false ∧ (T k').done.testBit x.i = true) ∨ (T k).done.testBit x.i = false := by
        intro k
        induction k with
        | zero =>
          intro hk
          cases hb : (T 0).done.testBit x.i with
          | false => exact .inr rfl
          | true => exact .inl ⟨0, Nat.le_refl _, by rw [hs0, Nat.zero_testBit], hb⟩
        | succ k ih =>
          intro hk
          rcases ih (by omega) with ⟨k', h1, h2⟩ | h1
          · exact .inl ⟨k', by omega, h2⟩
          · cases hb : (T (k + 1)).done.testBit x.i with
            | false => exact .inr rfl
            | true =>
              refine .inl ⟨k + 1, Nat.le_refl _, ?_, hb⟩
              obtain ⟨e, hke⟩ := hget (show k < m by omega)
              rw [(effectStep_spec (b k e hke).2).2.2.2.1, bit_or, ← hT k (by omega), h1]
              simp only [Bool.false_or, decide_eq_false_iff_not]
              intro e1
              have := draw_eq (mem_effs hke).1 hx e1
              rw [← this, (mem_effs hke).2] at hxe
              cases hxe
      rcases this m (Nat.le_refl _) with ⟨k, h1, h2⟩ | h1
      · exact ⟨k, h1, h2⟩
      · rw [hTm, hF, Nat.testBit_two_pow_sub_one] at h1
        simp [draw_lt hx] at h1
    obtain ⟨k, hk, h1, h2⟩ := hex
    obtain ⟨need, h3, h4⟩ := hne k hk
    obtain ⟨s1, s2, p1, p2, p3, p4⟩ := h3.at hx h1 h2
    exact ⟨k, hk, h1, h2, hQ k s1 s2 x hk p1.reach p1.snaps hx p3 (p4.reach.trans h4)⟩
  · intro k e hke
    have hk := hlt hke
    obtain ⟨h1, h2, h3, h4, v, h5, h6⟩ := effectStep_spec (b k e hke).2
    have hx := (mem_effs hke).1
    have hr : Reach (drawItems ops H.next) (S 0) (T0 k) := (hr0 k (by omega)).trans (hq k e hke).reach
    have hr2 : Reach (drawItems ops H.next) (S (k + 1)) F := hrF (m - (k + 1)) (k + 1) (by omega)
    have hfr := frame_at D hs0 hr ((he k e hke).trans hr2) hx h1 h2
    rw [hs0f] at hfr
    have hop := look_operands hfr
    have hwa := look_wanted hfr
    have hput : Put fr0 F e v := fun t ht hl => put_at D hx h5 (by rw [h4, bit_or]; simp) hr2 t ht (by rw [hr.length, hs0f]; exact hl)
    rcases h6 with ⟨h6, h7, h8⟩ | ⟨h6, h7⟩
    · subst h7
      exact .skip (hwa ▸ h6) hput (by rw [hT k hk]; exact h8)
    · exact .step v (hwa ▸ h6) hput (by rw [hT k hk, ← aOp_congr hop]; exact h7)
  · intro k hk
    rw [hm] at hk
    obtain ⟨need, h3, h4⟩ := hne k hk
    obtain ⟨h5, h6⟩ := h3.heap
    refine ⟨h5, fun b' o hb => ?_⟩
    rcases h6 b' o hb with h7 | ⟨x, hx, x1, x2, x3, x4, s1, s2, x5, x6, x7, x8, ans, x9⟩
    · exact .inl h7
    · refine .inr ⟨x, hx, x1, x2, x3, x4, ?_⟩
      obtain ⟨q1, q2, q3, q4, q5, v, q6, q7⟩ := quietStep_spec x6
      have hfr := frame_at D hs0 ((hr0 k hk).trans x5.reach) (.step hx q1 q2 q5 q6 (x7.reach.trans h4)) hx q1 q2
      rw [hs0f] at hfr
      exact ⟨(look_wanted hfr) ▸ x8, ans, by rw [← aAlloc_congr (look_operands hfr)]; exact x9⟩

end Go.Sx

/-
  SX, part 19: a region that draws its order, over the model: in every order the model ends where the interpreter does.
-/
namespace Go.Sx

theorem getD_put {listed : Array Bool} {i : Nat} (h : i < listed.size) (j : Nat) : (listed.setIfInBounds i true).getD j false = (if j = i then true else listed.getD j false) := by
  split
  · rename_i e
    subst e
    simp [h]
  · rename_i e
    simp [Array.getElem?_setIfInBounds_ne (Ne.symm e)]

section
variable {P : Program} {cfg : Cfg} {call : CallFn} {ops : Array Oper} {fr0 : AFrame} {H : AHeap} {F : DSt} {S T : Nat → DSt} {β0 : Emb} {w0 : World} {d0 : List Deferred}

/-- The frame with an operation's value. -/
theorem mix_put (D : DrawOk ops.toList H.next) (hl : F.fr.length = fr0.length) {p p' : Nat → Bool} {x : Item} (hx : x ∈ drawItems ops.toList H.next) (hp : p x.i = false) (hp' : ∀ j, p' j = if j = x.i then true else p j) {v : AVal} (hv : Put fr0 F x v) :
    mix (drawItems ops.toList H.next) fr0 F.fr p' = put (mix (drawItems ops.toList H.next) fr0 F.fr p) x.o.dst v := by
  apply List.ext_getElem?
  intro t
  rw [put_get, mix_get hl, mix_get hl, mix_length]
  by_cases hd : x.o.dst = some t
  · rw [mixv_in hx hd (by rw [hp']; simp)]
    by_cases ht : t < fr0.length
    · rw [if_pos ⟨hd, ht⟩]
      exact hv t hd ht
    · rw [if_neg (fun hc => ht hc.2)]
      have h1 : F.fr[t]? = none := List.getElem?_eq_none (by omega)
      have h2 : fr0[t]? = none := List.getElem?_eq_none (by omega)
      unfold mixv
      rw [h1, h2]
      split <;> rfl
  · rw [if_neg (fun hc => hd hc.1)]
    unfold mixv
    have : ((drawItems ops.toList H.next).any fun y => y.o.dst == some t && p' y.i) = (drawItems ops.toList H.next).any fun y => y.o.dst == some t && p y.i := by
      rw [Bool.eq_iff_iff, List.any_eq_true, List.any_eq_true]
      constructor
      · rintro ⟨y, hy, hb⟩
        rw [Bool.and_eq_true, beq_iff_eq] at hb
        refine ⟨y, hy, ?_⟩
        have hne : y.i ≠ x.i := by
          intro e
          have := draw_eq hy hx e
          subst this
          exact hd hb.1
        have h2 := hb.2
        rw [hp', if_neg hne] at h2
        rw [Bool.and_eq_true, beq_iff_eq]
        exact ⟨hb.1, h2⟩
      · rintro ⟨y, hy, hb⟩
        rw [Bool.and_eq_true, beq_iff_eq] at hb
        refine ⟨y, hy, ?_⟩
        rw [Bool.and_eq_true, beq_iff_eq, hp']
        refine ⟨hb.1, ?_⟩
        split
        · rfl
        · exact hb.2
    rw [this]

/-- A block that has been made ahead of its turn. -/
def Early (cfg : Cfg) (ops : Array Oper) (H : AHeap) (fr0 : AFrame) (F : DSt) (p : Nat → Bool) (done : Nat) (K : AHeap) (β : Emb) (w : World) : Prop :=
  ∀ x ∈ drawItems ops.toList H.next, p x.i = true → done.testBit x.i = false → isAlloc x.o.op = true → aWanted ops.toList (mix (drawItems ops.toList H.next) fr0 F.fr fun j => x.m.testBit j) x.o = true →
    ∀ obj ans, aAlloc cfg.types (mix (drawItems ops.toList H.next) fr0 F.fr fun j => x.m.testBit j) x.o.op = some (obj, ans) →
      ∃ c n, β x.name = some (c, 0, n) ∧ ObjR β obj (c, 0, n) w.heap ∧ ∀ b o y, K.get b = some o → β b = some y → y.1 ≠ c

structure Inv (cfg : Cfg) (ops : Array Oper) (H : AHeap) (fr0 : AFrame) (F : DSt) (S : Nat → DSt) (β0 : Emb) (w0 : World) (d0 : List Deferred) (listed : Array Bool) (k : Nat) (β : Emb) (a : Act) (w : World) : Prop where
  size : listed.size = ops.size
  shut : Shut (drawItems ops.toList H.next) fun j => listed.getD j false
  kle : k ≤ (effItems (drawItems ops.toList H.next)).length
  ke : ∀ (q : Nat) e, (effItems (drawItems ops.toList H.next))[q]? = some e → (listed.getD e.i false = true ↔ q < k)
  fr : FrR β (mix (drawItems ops.toList H.next) fr0 F.fr fun j => listed.getD j false) a.tmps
  df : a.defers = d0
  rel : Rel β (S k).H w.heap
  ext : Ext H.next β0 β H (S k).H w0 w
  nx : H.next + countAllocs ops.toList ≤ (S k).H.next
  early : Early cfg ops H fr0 F (fun j => listed.getD j false) (S k).done (S k).H β w
  dist : ∀ x ∈ drawItems ops.toList H.next, ∀ x' ∈ drawItems ops.toList H.next, x.i ≠ x'.i → isAlloc x.o.op = true → isAlloc x'.o.op = true → listed.getD x.i false = true → listed.getD x'.i false = true →
    (S k).done.testBit x.i = false → (S k).done.testBit x'.i = false → ∀ y y', β x.name = some y → β x'.name = some y' → y.1 ≠ y'.1
  free : ∀ x ∈ drawItems ops.toList H.next, isAlloc x.o.op = true → listed.getD x.i false = false → β x.name = none
  dead : ∀ x ∈ drawItems ops.toList H.next, isAlloc x.o.op = true → (S k).done.testBit x.i = false → (S k).H.get x.name = none

variable {listed : Array Bool} {k : Nat} {β : Emb} {a : Act} {w : World}

/-- The blocks whose turn has come are made part of the heap. -/
theorem Inv.promote (C : Cert cfg call ops.toList fr0 H F S T) (I : Inv cfg ops H fr0 F S β0 w0 d0 listed k β a w) (hT : ∀ x ∈ drawItems ops.toList H.next, (T k).done.testBit x.i = true → listed.getD x.i false = true) :
    Rel β (T k).H w.heap ∧ Early cfg ops H fr0 F (fun j => listed.getD j false) (T k).done (T k).H β w ∧ (∀ x ∈ drawItems ops.toList H.next, isAlloc x.o.op = true → (T k).done.testBit x.i = false → (T k).H.get x.name = none) ∧
      Ext H.next β0 β H (T k).H w0 w ∧ H.next + countAllocs ops.toList ≤ (T k).H.next := by
  obtain ⟨hn, hg⟩ := C.heap k I.kle
  have hsub : ∀ j, (T k).done.testBit j = false → (S k).done.testBit j = false := by
    intro j hj
    cases hb : (S k).done.testBit j with
    | false => rfl
    | true => rw [C.sub k I.kle j hb] at hj; cases hj
  refine ⟨⟨?_, ?_, ?_⟩, ?_, ?_, ?_, by rw [hn]; exact I.nx⟩
  · intro b x hb
    rw [hn]
    exact I.rel.dom b x hb
  · intro b o y hb hβ
    rcases hg b o hb with h1 | ⟨x, hx, h0, h1, h2, h3, h4, ans, h5⟩
    · exact I.rel.obj b o y h1 hβ
    · obtain ⟨c, n, g1, g2, _⟩ := I.early x hx (hT x hx h1) h0 h3 h4 o ans h5
      subst h2
      rw [hβ] at g1
      cases g1
      exact g2
  · intro b b' o o' y y' hb hb' hβ hβ' hy
    rcases hg b o hb with h1 | ⟨x, hx, h0, h1, h2, h3, h4, ans, h5⟩
    · rcases hg b' o' hb' with h1' | ⟨x', hx', h0', h1', h2', h3', h4', ans', h5'⟩
      · exact I.rel.inj b b' o o' y y' h1 h1' hβ hβ' hy
      · obtain ⟨c, n, g1, _, g3⟩ := I.early x' hx' (hT x' hx' h1') h0' h3' h4' o' ans' h5'
        subst h2'
        rw [hβ'] at g1
        cases g1
        exact absurd hy (g3 b o y h1 hβ)
    · rcases hg b' o' hb' with h1' | ⟨x', hx', h0', h1', h2', h3', h4', ans', h5'⟩
      · obtain ⟨c, n, g1, _, g3⟩ := I.early x hx (hT x hx h1) h0 h3 h4 o ans h5
        subst h2
        rw [hβ] at g1
        cases g1
        exact absurd hy.symm (g3 b' o' y' h1' hβ')
      · subst h2
        subst h2'
        by_cases e : x.i = x'.i
        · rw [draw_eq hx hx' e]
        · exact absurd hy (I.dist x hx x' hx' e h3 h3' (hT x hx h1) (hT x' hx' h1') h0 h0' y y' hβ hβ')
  · intro x hx hp hd ha hw obj ans hal
    obtain ⟨c, n, g1, g2, g3⟩ := I.early x hx hp (hsub _ hd) ha hw obj ans hal
    refine ⟨c, n, g1, g2, fun b o y hb hβ => ?_⟩
    rcases hg b o hb with h1 | ⟨x', hx', h0', h1', h2', h3', h4', ans', h5'⟩
    · exact g3 b o y h1 hβ
    · subst h2'
      have hne : x'.i ≠ x.i := by intro e; rw [e, hd] at h1'; cases h1'
      exact I.dist x' hx' x hx hne h3' ha (hT x' hx' h1') hp h0' (hsub _ hd) y _ hβ g1
  · intro x hx ha hd
    cases hb : (T k).H.get x.name with
    | none => rfl
    | some o =>
      rcases hg _ o hb with h1 | ⟨x', hx', h0', h1', h2', h3', _⟩
      · rw [I.dead x hx ha (hsub _ hd)] at h1
        cases h1
      · have hne : x.i ≠ x'.i := by intro e; rw [← e, hd] at h1'; cases h1'
        exact absurd h2' (name_ne hx hx' ha h3' hne)
  · refine I.ext.swap (fun b o hb hlt => ?_) (by have := I.nx; omega)
    rcases hg b o hb with h1 | ⟨x', hx', _, _, h2', _⟩
    · exact ⟨o, h1⟩
    · have := name_ge hx'
      omega

/-- The set of what is done, and the frame, behind one more operation. -/
theorem Inv.more (D : DrawOk ops.toList H.next) (C : Cert cfg call ops.toList fr0 H F S T) (I : Inv cfg ops H fr0 F S β0 w0 d0 listed k β a w) {x : Item} (hx : x ∈ drawItems ops.toList H.next) (hn : listed.getD x.i false = false)
    (hm : ∀ j, x.m.testBit j = true → listed.getD j false = true) {v : AVal} (hput : Put fr0 F x v) {β' : Emb} (hle : β.le β') {v' : Value} (hv : VR β' v v') :
    (∀ j, (listed.setIfInBounds x.i true).getD j false = if j = x.i then true else listed.getD j false) ∧ (listed.setIfInBounds x.i true).size = ops.size ∧ Shut (drawItems ops.toList H.next) (fun j => (listed.setIfInBounds x.i true).getD j false) ∧
      FrR β' (mix (drawItems ops.toList H.next) fr0 F.fr fun j => (listed.setIfInBounds x.i true).getD j false) (a.put x.o.dst v').tmps ∧ (a.put x.o.dst v').defers = d0 := by
  have hlt : x.i < listed.size := by
    have := draw_lt hx
    rw [I.size]
    simpa using this
  have hg := getD_put (listed := listed) hlt
  refine ⟨hg, by simp [I.size], ?_, ?_, ?_⟩
  · intro y hy hy1 j hj
    simp only [hg] at hy1 ⊢
    split
    · rfl
    · by_cases e : y.i = x.i
      · have := draw_eq hy hx e
        subst this
        exact hm j hj
      · rw [if_neg e] at hy1
        exact I.shut y hy hy1 j hj
  · rw [mix_put D C.len hx hn hg hput]
    exact FrR.put (VRs.mono hle I.fr) x.o.dst hv
  · rw [← I.df]
    cases x.o.dst <;> rfl

/-- An operation without effect that makes no block. -/
theorem Inv.quiet (D : DrawOk ops.toList H.next) (C : Cert cfg call ops.toList fr0 H F S T) (I : Inv cfg ops H fr0 F S β0 w0 d0 listed k β a w) {x : Item} (hx : x ∈ drawItems ops.toList H.next) (hn : listed.getD x.i false = false)
    (hm : ∀ j, x.m.testBit j = true → listed.getD j false = true) (he : isEffect x.o.op = false) (ha : isAlloc x.o.op = false ∨ aWanted ops.toList (mix (drawItems ops.toList H.next) fr0 F.fr fun j => x.m.testBit j) x.o = false)
    {v : AVal} (hput : Put fr0 F x v) {v' : Value} (hv : VR β v v') : Inv cfg ops H fr0 F S β0 w0 d0 (listed.setIfInBounds x.i true) k β (a.put x.o.dst v') w := by
  obtain ⟨hg, h1, h2, h3, h4⟩ := I.more D C hx hn hm hput β.le_refl hv
  have hnx : isAlloc x.o.op = true → β x.name = none := fun ha' => I.free x hx ha' hn
  refine ⟨h1, h2, I.kle, ?_, h3, h4, I.rel, I.ext, I.nx, ?_, ?_, ?_, I.dead⟩
  · intro q e hq
    rw [hg, ← I.ke q e hq]
    have hne : e.i ≠ x.i := by
      intro e1
      have := draw_eq (mem_effs hq).1 hx e1
      rw [← this, (mem_effs hq).2] at he
      cases he
    rw [if_neg hne]
  · intro y hy hp hd hay hw obj ans hal
    simp only [hg] at hp
    by_cases e : y.i = x.i
    · have := draw_eq hy hx e
      subst this
      rcases ha with ha | ha
      · rw [ha] at hay; cases hay
      · rw [ha] at hw; cases hw
    · rw [if_neg e] at hp
      exact I.early y hy hp hd hay hw obj ans hal
  · intro y hy y' hy' hne hay hay' hp hp' hd hd' z z' hz hz'
    rw [hg] at hp hp'
    by_cases e : y.i = x.i
    · have := draw_eq hy hx e
      subst this
      rw [hnx hay] at hz; cases hz
    · by_cases e' : y'.i = x.i
      · have := draw_eq hy' hx e'
        subst this
        rw [hnx hay'] at hz'; cases hz'
      · rw [if_neg e] at hp
        rw [if_neg e'] at hp'
        exact I.dist y hy y' hy' hne hay hay' hp hp' hd hd' z z' hz hz'
  · intro y hy hay hp
    rw [hg] at hp
    split at hp
    · cases hp
    · exact I.free y hy hay hp

/-- An operation that makes a block. -/
theorem Inv.alloc (D : DrawOk ops.toList H.next) (C : Cert cfg call ops.toList fr0 H F S T) (I : Inv cfg ops H fr0 F S β0 w0 d0 listed k β a w) {x : Item} (hx : x ∈ drawItems ops.toList H.next) (hn : listed.getD x.i false = false)
    (hm : ∀ j, x.m.testBit j = true → listed.getD j false = true) (he : isEffect x.o.op = false) (ha : isAlloc x.o.op = true) {obj : AObj} {ans : Nat → AVal} (hal : aAlloc cfg.types (mix (drawItems ops.toList H.next) fr0 F.fr fun j => x.m.testBit j) x.o.op = some (obj, ans))
    (hk : (S k).done.testBit x.i = false) (hput : Put fr0 F x (ans x.name)) {oc : Obj} {n : Nat} {v' : Value} (hv : ∀ β' name, β.le β' → β' name = some (w.heap.size, 0, n) → VR β' (ans name) v')
    (ho : ∀ β' hp, β.le β' → hp[w.heap.size]? = some oc → ObjR β' obj (w.heap.size, 0, n) hp) :
    Inv cfg ops H fr0 F S β0 w0 d0 (listed.setIfInBounds x.i true) k (β.upd x.name (w.heap.size, 0, n)) (a.put x.o.dst v') (w.alloc oc) := by
  have hb : β x.name = none := I.free x hx ha hn
  have hle := Emb.le_upd hb (w.heap.size, 0, n)
  obtain ⟨hg, h1, h2, h3, h4⟩ := I.more D C hx hn hm hput hle (hv _ x.name hle (Emb.upd_same _ _ _))
  have hnew : (w.alloc oc).heap[w.heap.size]? = some oc := push_new
  have hold : ∀ c, c < w.heap.size → (w.alloc oc).heap[c]? = w.heap[c]? := fun c hc => push_old hc
  have hname := name_lt hx ha
  have hdead := I.dead x hx ha hk
  have hother : ∀ b y, b ≠ x.name → (β.upd x.name (w.heap.size, 0, n)) b = some y → β b = some y := by
    intro b y hne h
    unfold Emb.upd at h
    rwa [if_neg hne] at h
  refine ⟨h1, h2, I.kle, ?_, h3, h4, ?_, ?_, I.nx, ?_, ?_, ?_, I.dead⟩
  · intro q e hq
    rw [hg, ← I.ke q e hq]
    have hne : e.i ≠ x.i := by
      intro e1
      have := draw_eq (mem_effs hq).1 hx e1
      rw [← this, (mem_effs hq).2] at he
      cases he
    rw [if_neg hne]
  · refine ⟨?_, ?_, ?_⟩
    · intro b y hb'
      by_cases e : b = x.name
      · subst e
        rw [Emb.upd_same] at hb'
        cases hb'
        have := I.nx
        exact ⟨by omega, by show w.heap.size < (w.heap.push oc).size; simp⟩
      · obtain ⟨p, q⟩ := I.rel.dom b y (hother b y e hb')
        exact ⟨p, by show y.1 < (w.heap.push oc).size; simp; omega⟩
    · intro b o y hb' hβ
      have e : b ≠ x.name := by intro e; subst e; rw [hdead] at hb'; cases hb'
      have hβ' := hother b y e hβ
      exact (I.rel.obj b o y hb' hβ').mono hle (hold _ (I.rel.dom b y hβ').2)
    · intro b b' o o' y y' hb1 hb2 hβ1 hβ2 hy
      have e : b ≠ x.name := by intro e; subst e; rw [hdead] at hb1; cases hb1
      have e' : b' ≠ x.name := by intro e; subst e; rw [hdead] at hb2; cases hb2
      exact I.rel.inj b b' o o' y y' hb1 hb2 (hother b y e hβ1) (hother b' y' e' hβ2) hy
  · refine ⟨Emb.le_trans I.ext.le hle, ?_, I.ext.live, ?_, ?_, I.ext.tape, I.ext.os, I.ext.output, I.ext.next⟩
    · intro b y hb'
      by_cases e : b = x.name
      · subst e
        rw [Emb.upd_same] at hb'
        cases hb'
        exact .inr ⟨name_ge hx, .inl I.ext.size⟩
      · exact I.ext.new b y (hother b y e hb')
    · have := I.ext.size
      show w0.heap.size ≤ (w.heap.push oc).size
      simp
      omega
    · intro c hc hne
      rw [← I.ext.frame c hc hne]
      exact hold c (Nat.lt_of_lt_of_le hc I.ext.size)
  · intro y hy hp hd hay hw obj' ans' hal'
    simp only [hg] at hp
    by_cases e : y.i = x.i
    · have := draw_eq hy hx e
      subst this
      rw [hal] at hal'
      cases hal'
      refine ⟨w.heap.size, n, Emb.upd_same _ _ _, ho _ _ hle hnew, fun b o z hb' hβ hz => ?_⟩
      have e : b ≠ y.name := by intro e; subst e; rw [hdead] at hb'; cases hb'
      have := (I.rel.dom b z (hother b z e hβ)).2
      omega
    · rw [if_neg e] at hp
      obtain ⟨c, m, g1, g2, g3⟩ := I.early y hy hp hd hay hw obj' ans' hal'
      refine ⟨c, m, hle _ _ g1, g2.mono hle (hold _ (I.rel.dom _ _ g1).2), fun b o z hb' hβ => ?_⟩
      have e : b ≠ x.name := by intro e; subst e; rw [hdead] at hb'; cases hb'
      exact g3 b o z hb' (hother b z e hβ)
  · intro y hy y' hy' hne hay hay' hp hp' hd hd' z z' hz hz' hzz
    rw [hg] at hp hp'
    by_cases e : y.i = x.i
    · have := draw_eq hy hx e
      subst this
      rw [Emb.upd_same] at hz
      cases hz
      have hn' := name_ne hy' hy hay' hay (Ne.symm hne)
      have := (I.rel.dom _ _ (hother _ _ hn' hz')).2
      simp only at hzz
      omega
    · by_cases e' : y'.i = x.i
      · have := draw_eq hy' hx e'
        subst this
        rw [Emb.upd_same] at hz'
        cases hz'
        have hn' := name_ne hy hy' hay hay' hne
        have := (I.rel.dom _ _ (hother _ _ hn' hz)).2
        simp only at hzz
        omega
      · rw [if_neg e] at hp
        rw [if_neg e'] at hp'
        have n1 := name_ne hy hx hay ha e
        have n2 := name_ne hy' hx hay' ha e'
        exact I.dist y hy y' hy' hne hay hay' hp hp' hd hd' z z' (hother _ _ n1 hz) (hother _ _ n2 hz') hzz
  · intro y hy hay hp
    rw [hg] at hp
    split at hp
    · cases hp
    · rename_i e
      have n1 := name_ne hy hx hay ha e
      unfold Emb.upd
      rw [if_neg n1]
      exact I.free y hy hay hp

/-- An operation with an effect. -/
theorem Inv.eff (D : DrawOk ops.toList H.next) (C : Cert cfg call ops.toList fr0 H F S T) (I : Inv cfg ops H fr0 F S β0 w0 d0 listed k β a w) (hd0 : ∀ b x, β0 b = some x → b < H.next ∧ x.1 < w0.heap.size) {x : Item} (hk : (effItems (drawItems ops.toList H.next))[k]? = some x)
    (hn : listed.getD x.i false = false) (hm : ∀ j, x.m.testBit j = true → listed.getD j false = true) (hT : ∀ y ∈ drawItems ops.toList H.next, (T k).done.testBit y.i = true → listed.getD y.i false = true)
    {v : AVal} (hput : Put fr0 F x v) {β' : Emb} {w' : World} {v' : Value} (hv : VR β' v v') (hR : Rel β' (S (k + 1)).H w'.heap) (hE : Ext (T k).H.next β β' (T k).H (S (k + 1)).H w w') :
    Inv cfg ops H fr0 F S β0 w0 d0 (listed.setIfInBounds x.i true) (k + 1) β' (a.put x.o.dst v') w' := by
  obtain ⟨hx, hxe⟩ := mem_effs hk
  obtain ⟨pr, pe, pd, px, pn⟩ := I.promote C hT
  obtain ⟨hg, h1, h2, h3, h4⟩ := I.more D C hx hn hm hput hE.le hv
  have hdone : ∀ y ∈ drawItems ops.toList H.next, (S (k + 1)).done.testBit y.i = false → (T k).done.testBit y.i = false := by
    intro y hy hb
    rw [C.next k x hk, bit_or, Bool.or_eq_false_iff] at hb
    exact hb.1
  have hsub : ∀ j, (T k).done.testBit j = false → (S k).done.testBit j = false := by
    intro j hj
    cases hb : (S k).done.testBit j with
    | false => rfl
    | true => rw [C.sub k I.kle j hb] at hj; cases hj
  -- no new names among the reserved ones
  have hres : ∀ y ∈ drawItems ops.toList H.next, isAlloc y.o.op = true → ∀ z, β' y.name = some z → β y.name = some z := by
    intro y hy hay z hz
    rcases hE.new _ z hz with h | ⟨h, _⟩
    · exact h
    · have := name_lt hy hay
      omega
  have hnot : ∀ y ∈ drawItems ops.toList H.next, isAlloc y.o.op = true → y.i ≠ x.i := by
    intro y hy hay e
    have := draw_eq hy hx e
    subst this
    unfold isAlloc at hay
    unfold isEffect at hxe
    split at hay
    · rename_i hq; rw [hq] at hxe; cases hxe
    · cases hay
  refine ⟨h1, h2, ?_, ?_, h3, h4, hR, px.trans hE px.next hd0, Nat.le_trans pn hE.next, ?_, ?_, ?_, ?_⟩
  · exact (List.getElem?_eq_some_iff.1 hk).1
  · intro q e hq
    rw [hg]
    by_cases e1 : e.i = x.i
    · rw [if_pos e1]
      have := draw_eq (mem_effs hq).1 hx e1
      subst this
      refine ⟨fun _ => ?_, fun _ => rfl⟩
      rcases Nat.lt_or_ge q (k + 1) with h | h
      · exact h
      · exfalso
        -- the same item at two places of a list whose numbers grow
        have hnd : (effItems (drawItems ops.toList H.next)).Pairwise fun x y => x.i < y.i := by
          unfold effItems
          refine List.Pairwise.filter _ ?_
          rw [List.pairwise_iff_getElem]
          intro i j hi hj hij
          have e1 := (draw_get (List.getElem?_eq_getElem hi)).1
          have e2 := (draw_get (List.getElem?_eq_getElem hj)).1
          rw [e1, e2]
          exact hij
        rw [List.pairwise_iff_getElem] at hnd
        obtain ⟨b1, b2⟩ := List.getElem?_eq_some_iff.1 hk
        obtain ⟨c1, c2⟩ := List.getElem?_eq_some_iff.1 hq
        have := hnd k q b1 c1 (by omega)
        rw [b2, c2] at this
        omega
    · rw [if_neg e1, I.ke q e hq]
      constructor
      · intro h; omega
      · intro h
        rcases Nat.lt_or_ge q k with h2 | h2
        · exact h2
        · exfalso
          have : q = k := by omega
          subst this
          rw [hk] at hq
          cases hq
          exact e1 rfl
  · intro y hy hp hd hay hw obj ans hal
    simp only [hg] at hp
    rw [if_neg (hnot y hy hay)] at hp
    obtain ⟨c, n, g1, g2, g3⟩ := pe y hy hp (hdone y hy hd) hay hw obj ans hal
    have hc := (pr.dom _ _ g1).2
    refine ⟨c, n, hE.le _ _ g1, g2.mono hE.le (hE.frame c hc fun b o z hb hβ => g3 b o z hb hβ), fun b o z hb hβ => ?_⟩
    rcases hE.new b z hβ with h | ⟨_, h⟩
    · obtain ⟨o', ho'⟩ := hE.live b o hb (pr.dom b z h).1
      exact g3 b o' z ho' h
    · rcases h with h | ⟨b0, o0, z0, q1, q2, q3⟩
      · simp only at hc; omega
      · rw [← q3]; exact g3 b0 o0 z0 q1 q2
  · intro y hy y' hy' hne hay hay' hp hp' hd hd' z z' hz hz'
    rw [hg, if_neg (hnot y hy hay)] at hp
    rw [hg, if_neg (hnot y' hy' hay')] at hp'
    exact I.dist y hy y' hy' hne hay hay' hp hp' (hsub _ (hdone y hy hd)) (hsub _ (hdone y' hy' hd')) z z' (hres y hy hay z hz) (hres y' hy' hay' z' hz')
  · intro y hy hay hp
    rw [hg, if_neg (hnot y hy hay)] at hp
    cases hz : β' y.name with
    | none => rfl
    | some z =>
      have := hres y hy hay z hz
      rw [I.free y hy hay hp] at this
      cases this
  · intro y hy hay hd
    cases hz : (S (k + 1)).H.get y.name with
    | none => rfl
    | some o =>
      have hlt := name_lt hy hay
      obtain ⟨o', ho'⟩ := hE.live _ o hz (by omega)
      rw [pd y hy hay (hdone y hy hd)] at ho'
      cases ho'

end
end Go.Sx

/-
  SX, part 20: a region that draws its order, over the model: the whole region.
-/
namespace Go.Sx

theorem namesFree_spec {H : AHeap} : ∀ {l : List Item}, namesFree H l = true → ∀ x ∈ l, isAlloc x.o.op = true → H.get x.name = none
  | [], _, x, hx, _ => by cases hx
  | y :: l, h, x, hx, ha => by
    unfold namesFree at h
    rw [Bool.and_eq_true] at h
    rcases List.mem_cons.1 hx with rfl | hx
    · have := h.1
      rw [if_pos ha] at this
      simpa using this
    · exact namesFree_spec h.2 x hx ha

/-- How many are not listed. -/
def todo (listed : Array Bool) : Nat := listed.toList.countP fun b => !b

theorem todo_put {listed : Array Bool} {i : Nat} (h : i < listed.size) (hn : listed.getD i false = false) : todo (listed.setIfInBounds i true) + 1 = todo listed := by
  unfold todo
  have hi : listed.toList[i]? = some false := by
    rw [Array.getElem?_toList]
    rw [Array.getD_eq_getD_getElem?] at hn
    rw [Array.getElem?_eq_getElem h] at hn ⊢
    simpa using hn
  have hl : i < listed.toList.length := by simpa using h
  rw [Array.toList_setIfInBounds]
  have h1 : listed.toList = listed.toList.take i ++ false :: listed.toList.drop (i + 1) := by
    have hv := (List.getElem?_eq_some_iff.1 hi).2
    rw [← hv, List.getElem_cons_drop hl, List.take_append_drop]
  have h2 : listed.toList.set i true = listed.toList.take i ++ true :: listed.toList.drop (i + 1) := List.set_eq_take_append_cons_drop.trans (if_pos hl)
  rw [h2]
  conv => rhs; rw [h1]
  simp only [List.countP_append, List.countP_cons]
  simp
  omega

theorem todo_zero {listed : Array Bool} (h : todo listed = 0) {i : Nat} (hi : i < listed.size) : listed.getD i false = true := by
  unfold todo at h
  rw [List.countP_eq_zero] at h
  have := h listed[i] (by simp)
  rw [Array.getD_eq_getD_getElem?, Array.getElem?_eq_getElem hi]
  simpa using this

section
variable {P : Program} {B : Base} {cfg : Cfg} {call : CallFn} {ops : Array Oper} {fr0 : AFrame} {H : AHeap} {F : DSt} {S T : Nat → DSt} {β0 : Emb} {w0 : World} {d0 : List Deferred} {Q : Exit → Act → World → Prop}
variable {listed : Array Bool} {k : Nat} {β : Emb} {a : Act} {w : World}

/-- Where nothing is ready, all is done. -/
theorem all_listed (D : DrawOk ops.toList H.next) (hs : listed.size = ops.size) (h : Region.ready .any ops listed = []) : ∀ i, i < ops.size → listed.getD i false = true := by
  intro i
  induction i using Nat.strongRecOn with
  | _ i ih =>
    intro hi
    cases hb : listed.getD i false with
    | true => rfl
    | false =>
      exfalso
      obtain ⟨x, hx, e⟩ := draw_of_lt (ops := ops.toList) (nx := H.next) (i := i) (by simpa using hi)
      subst e
      have hg := draw_get (draw_mem hx)
      have : x.i ∈ Region.ready .any ops listed := by
        rw [mem_ready]
        refine ⟨?_, x.o, by simpa using hg.2.1, fun e he hbe => ?_⟩
        · rw [Array.getD_eq_getD_getElem?] at hb ⊢
          rw [Array.getElem?_eq_getElem (by omega)] at hb ⊢
          simpa using hb
        · have h1 := (mask_edges hg.2.1 hg.2.2.1).2 e (Array.mem_toList_iff.2 he) hbe
          have h2 := bit_lt (D.low x hx) h1
          exact ih _ h2 (by omega)
      rw [h] at this
      cases this

theorem all_done (D : DrawOk ops.toList H.next) (C : Cert cfg call ops.toList fr0 H F S T) (I : Inv cfg ops H fr0 F S β0 w0 d0 listed k β a w) (h : ∀ i, i < ops.size → listed.getD i false = true)
    (hQ : ∀ β' a' w', a'.defers = d0 → FrR β' F.fr a'.tmps → Rel β' F.H w'.heap → Ext H.next β0 β' H F.H w0 w' → Q .normal a' w') : Q .normal a w := by
  have hall : ∀ x ∈ drawItems ops.toList H.next, listed.getD x.i false = true := fun x hx => h _ (by have := draw_lt hx; simpa using this)
  have hk : k = (effItems (drawItems ops.toList H.next)).length := by
    have h1 := I.kle
    rcases Nat.lt_or_ge k (effItems (drawItems ops.toList H.next)).length with h2 | h2
    · have h3 : (effItems (drawItems ops.toList H.next))[k]? = some _ := List.getElem?_eq_getElem h2
      have := (I.ke k _ h3).1 (hall _ (mem_effs h3).1)
      omega
    · omega
  obtain ⟨pr, _, _, px, _⟩ := I.promote C fun x hx _ => hall x hx
  have hT : T k = F := by rw [hk]; exact C.fin
  rw [hT] at pr px
  refine hQ β a w I.df ?_ pr px
  have hm : mix (drawItems ops.toList H.next) fr0 F.fr (fun j => listed.getD j false) = F.fr := by
    apply List.ext_getElem?
    intro t
    rw [mix_get C.len]
    by_cases he : ∃ x ∈ drawItems ops.toList H.next, x.o.dst = some t
    · obtain ⟨x, hx, hd⟩ := he
      exact mixv_in hx hd (hall x hx)
    · rw [mixv_out fun x hx hd => absurd ⟨x, hx, hd⟩ he]
      exact (C.bare t fun x hx hd => he ⟨x, hx, hd⟩).symm
  have := I.fr
  rwa [hm] at this

theorem any_sound (Ty : TyOk P cfg.types) (hC : CallOk P B call) (hB : B.At β0 H w0) (D : DrawOk ops.toList H.next) (C : Cert cfg call ops.toList fr0 H F S T) (hd0 : ∀ b x, β0 b = some x → b < H.next ∧ x.1 < w0.heap.size)
    (hQ : ∀ β' a' w', a'.defers = d0 → FrR β' F.fr a'.tmps → Rel β' F.H w'.heap → Ext H.next β0 β' H F.H w0 w' → Q .normal a' w') :
    ∀ (fuel : Nat) (listed : Array Bool) (k : Nat) (β : Emb) (a : Act) (w : World), Inv cfg ops H fr0 F S β0 w0 d0 listed k β a w → todo listed ≤ fuel → wpAny P .any ops Q fuel listed a w := by
  intro fuel
  induction fuel with
  | zero =>
    intro listed k β a w I ht
    have hall : ∀ i, i < ops.size → listed.getD i false = true := fun i hi => todo_zero (by omega) (by rw [I.size]; exact hi)
    refine ⟨?_, all_done D C I hall hQ⟩
    cases hr : Region.ready .any ops listed with
    | nil => rfl
    | cons i l =>
      exfalso
      have hi : i ∈ Region.ready .any ops listed := by rw [hr]; simp
      obtain ⟨h1, o, ho, _⟩ := mem_ready.1 hi
      have hlt := (Array.getElem?_eq_some_iff.1 ho).1
      have h2 := hall i hlt
      rw [Array.getD_eq_getD_getElem?] at h1 h2
      rw [Array.getElem?_eq_getElem (by rw [I.size]; exact hlt)] at h1 h2
      simp at h1 h2
      rw [h1] at h2
      cases h2
  | succ fuel ih =>
    intro listed k β a w I ht
    refine ⟨fun hr => all_done D C I (all_listed D I.size hr) hQ, fun i hi => ?_⟩
    obtain ⟨h1, o, ho, hedge⟩ := mem_ready.1 hi
    have hlt := (Array.getElem?_eq_some_iff.1 ho).1
    obtain ⟨x, hx, hxi⟩ := draw_of_lt (ops := ops.toList) (nx := H.next) (i := i) (by simpa using hlt)
    subst hxi
    have hgx := draw_get (draw_mem hx)
    have hxo : x.o = o := by
      have := hgx.2.1
      rw [Array.getElem?_toList, ho] at this
      exact (Option.some.inj this).symm
    subst hxo
    have hn : listed.getD x.i false = false := by
      rw [Array.getD_eq_getD_getElem?] at h1 ⊢
      rw [Array.getElem?_eq_getElem (by rw [I.size]; exact hlt)] at h1 ⊢
      simpa using h1
    have hm : ∀ j, x.m.testBit j = true → listed.getD j false = true := by
      intro j hj
      obtain ⟨e, he, hb, h2⟩ := (mask_edges hgx.2.1 hgx.2.2.1).1 j hj
      have h3 := hedge e (Array.mem_toList_iff.1 he) hb
      rcases h2 with h2 | ⟨m', h2, h4⟩
      · rw [← h2]; exact h3
      · have hlt' : e.on < ops.toList.length := by
          have := (List.getElem?_eq_some_iff.1 h2).1
          rw [masks_length] at this
          simpa using this
        obtain ⟨y, hy, hyi⟩ := draw_of_lt (nx := H.next) hlt'
        have h5 := (draw_get (draw_mem hy)).2.2.1
        rw [hyi, h2] at h5
        have : m' = y.m := Option.some.inj h5
        subst this
        exact I.shut y hy (by simp only [hyi]; exact h3) j h4
    have htd := todo_put (listed := listed) (by rw [I.size]; exact hlt) hn
    have hnext : ∀ {k' β' a' w'}, Inv cfg ops H fr0 F S β0 w0 d0 (listed.setIfInBounds x.i true) k' β' a' w' → wpAny P .any ops Q fuel (listed.setIfInBounds x.i true) a' w' := fun I' => ih _ _ _ _ _ I' (by omega)
    -- the frame as the certificate has it, and as it is
    have hfr : ∀ t ∈ looks ops.toList x.o, (mix (drawItems ops.toList H.next) fr0 F.fr fun j => x.m.testBit j)[t]? = (mix (drawItems ops.toList H.next) fr0 F.fr fun j => listed.getD j false)[t]? := by
      intro t htl
      rw [mix_get C.len, mix_get C.len]
      by_cases hw : ∃ y ∈ drawItems ops.toList H.next, y.o.dst = some t ∧ x.m.testBit y.i = true
      · obtain ⟨y, hy, hd, hb⟩ := hw
        rw [mixv_in hy hd hb, mixv_in hy hd (hm _ hb)]
      · rw [mixv_out (fun y hy hd => by
          cases hb : x.m.testBit y.i with
          | false => rfl
          | true => exact absurd ⟨y, hy, hd, hb⟩ hw), mixv_out]
        intro z hz hzd
        cases hb : listed.getD z.i false with
        | false => rfl
        | true =>
          exfalso
          have hne : z.i ≠ x.i := by intro e; rw [e, hn] at hb; cases hb
          rcases D.dep z hz x hx hne t hzd htl with h2 | h2
          · exact hw ⟨z, hz, hzd, h2⟩
          · have := I.shut z hz hb x.i h2
            simp only [hn] at this
            cases this
    have hop := look_operands hfr
    have hwa := look_wanted hfr
    unfold wpOp
    rw [ho]
    simp only
    rw [wanted_eq I.fr ops x.o, ← hwa]
    cases hex : isEffect x.o.op with
    | false =>
      obtain ⟨kc, hkc, hsk, htk, hq⟩ := C.quiet x hx hex
      have hkle : k ≤ kc := by
        rcases Nat.lt_or_ge kc k with h2 | h2
        · exfalso
          have hlt2 : kc < (effItems (drawItems ops.toList H.next)).length := Nat.lt_of_lt_of_le h2 I.kle
          have h3 : (effItems (drawItems ops.toList H.next))[kc]? = some _ := List.getElem?_eq_getElem hlt2
          have h4 := C.need kc _ h3 x hx hsk htk
          have := I.shut _ (mem_effs h3).1 ((I.ke kc _ h3).2 h2) x.i h4
          simp only [hn] at this
          cases this
        · exact h2
      have hSk : (S k).done.testBit x.i = false := by
        cases hb : (S k).done.testBit x.i with
        | false => rfl
        | true =>
          obtain ⟨q, e, q1, q2, q3⟩ := C.doneS k I.kle x hx hb
          have h5 := (I.ke q e q2).2 q1
          rcases q3 with q3 | q3
          · rw [q3, hn] at h5; cases h5
          · have := I.shut e (mem_effs q2).1 h5 x.i q3
            simp only [hn] at this
            cases this
      cases hq with
      | skip hw hp =>
        rw [if_neg (by rw [hw]; simp)]
        exact hnext (I.quiet D C hx hn hm hex (.inr hw) hp (VR.undef β))
      | value v hw ha hp hv =>
        rw [if_pos hw]
        refine .inl ?_
        have hval : ∃ v', (execOp a.eval x.o).run P w = .ok (.value v') w ∧ VR β v v' := by
          rcases hv with hv | hv
          · exact pure_sound Ty w I.fr x.o (by rw [← aPure_congr hop]; exact hv)
          · refine read_sound Ty w I.fr I.rel x.o ?_
            rw [← aRead_congr hop]
            refine hv k (countIn_le _ _ _ fun q e hqe hb => ?_) hkle
            exact (I.ke q e hqe).1 (hm _ hb)
        obtain ⟨v', e1, e2⟩ := hval
        unfold Oper.wp
        rw [e1]
        exact hnext (I.quiet D C hx hn hm hex (.inl ha) hp e2)
      | alloc obj ans hw ha hal hp =>
        rw [if_pos hw]
        refine .inl ?_
        obtain ⟨oc, n, v', e1, e2, e3⟩ := alloc_sound Ty w I.fr x.o (by rw [← aAlloc_congr hop]; exact hal)
        unfold Oper.wp
        rw [e1]
        exact hnext (I.alloc D C hx hn hm hex ha hal hSk hp e2 e3)
    | true =>
      -- its turn among the operations with an effect
      have hmem : x ∈ effItems (drawItems ops.toList H.next) := by
        unfold effItems
        rw [List.mem_filter]
        exact ⟨hx, hex⟩
      obtain ⟨q, hql, hqx⟩ := List.getElem_of_mem hmem
      have hqe : (effItems (drawItems ops.toList H.next))[q]? = some x := by rw [List.getElem?_eq_getElem hql, hqx]
      have hkq : k = q := by
        have h2 : ¬ q < k := by
          intro h2
          have := (I.ke q x hqe).2 h2
          rw [hn] at this
          cases this
        rcases Nat.lt_or_ge k q with h3 | h3
        · exfalso
          have hlt2 : k < (effItems (drawItems ops.toList H.next)).length := by omega
          have h4 : (effItems (drawItems ops.toList H.next))[k]? = some _ := List.getElem?_eq_getElem hlt2
          obtain ⟨m1, m2⟩ := mem_effs h4
          have hnd : (effItems (drawItems ops.toList H.next)).Pairwise fun x y => x.i < y.i := by
            unfold effItems
            refine List.Pairwise.filter _ ?_
            rw [List.pairwise_iff_getElem]
            intro i j hi hj hij
            have e1 := (draw_get (List.getElem?_eq_getElem hi)).1
            have e2 := (draw_get (List.getElem?_eq_getElem hj)).1
            rw [e1, e2]
            exact hij
          rw [List.pairwise_iff_getElem] at hnd
          have h5 := hnd k q hlt2 hql h3
          rw [hqx] at h5
          have h6 : x.m.testBit ((effItems (drawItems ops.toList H.next))[k]).i = true := by
            rcases D.eff _ m1 x hx (by omega) m2 hex with h6 | h6
            · exact h6
            · have := bit_lt (D.low _ m1) h6
              omega
          have := (I.ke k _ h4).1 (hm _ h6)
          omega
        · omega
      subst hkq
      have hT : ∀ y ∈ drawItems ops.toList H.next, (T k).done.testBit y.i = true → listed.getD y.i false = true := by
        intro y hy hb
        cases h0 : (S k).done.testBit y.i with
        | true =>
          obtain ⟨q, e, q1, q2, q3⟩ := C.doneS k I.kle y hy h0
          have h5 := (I.ke q e q2).2 q1
          rcases q3 with q3 | q3
          · rw [← q3]; exact h5
          · exact I.shut e (mem_effs q2).1 h5 y.i q3
        | false => exact hm _ (C.need k x hqe y hy h0 hb)
      obtain ⟨pr, _, _, px, pn⟩ := I.promote C hT
      have hE := C.eff k x hqe
      cases hE with
      | skip hw hp hH =>
        rw [if_neg (by rw [hw]; simp)]
        refine hnext (I.eff D C hd0 hqe hn hm hT hp (VR.undef β) (w' := w) (by rw [hH]; exact pr) ?_)
        rw [hH]
        exact Ext.refl _ _ _ _
      | step v hw hp hop' =>
        rw [if_pos hw]
        refine .inl ?_
        refine op_step Ty hC (hB.ext px hd0) (a := a) (name := x.name) (fr := mix (drawItems ops.toList H.next) fr0 F.fr fun j => listed.getD j false) I.fr pr (v := v) (H' := (S (k + 1)).H) (by rw [← aOp_congr hop]; exact hop') (Ext.refl _ β (T k).H w) pr.dom (fun ha => ?_) fun β' v' w' _ hv hR hE' _ _ => ?_
        · exfalso
          unfold isAlloc at ha
          unfold isEffect at hex
          split at ha
          · rename_i hq; rw [hq] at hex; cases hex
          · cases ha
        · exact hnext (I.eff D C hd0 hqe hn hm hT hp hv hR hE')

/-- A region that draws. -/
theorem region_draw_sound (Ty : TyOk P cfg.types) (hC : CallOk P B call) (hB : B.At β H w) (hmix : P.follows .mixedOrders = true) {id : Nat} (hok : okDraw ops.toList = true) {fr' : AFrame} {H' : AHeap} (h : aRegion cfg call ops.toList true fr0 H = some (fr', H'))
    (hF : FrR β fr0 a.tmps) (hR : Rel β H w.heap) (hQ : ∀ β' a' w', a'.defers = a.defers → FrR β' fr' a'.tmps → Rel β' H' w'.heap → Ext H.next β β' H H' w w' → Q .normal a' w') : (Code.region id ops true).wp P Q a w := by
  unfold aRegion aDraw at h
  simp only [if_true] at h
  split at h
  · rename_i hfree
    split at h
    · rename_i F hrun
      split at h
      · rename_i hdone
        cases h
        have D := okDraw_spec hok H.next
        obtain ⟨S, T, C⟩ := cert_of_run D hrun hdone
        refine wp_region_any hmix ?_
        have hsz : todo (Array.replicate ops.size false) ≤ ops.size := by
          unfold todo
          refine Nat.le_trans List.countP_le_length ?_
          simp
        have hrep : ∀ j, (Array.replicate ops.size false).getD j false = false := by
          intro j
          rw [Array.getD_eq_getD_getElem?, Array.getElem?_replicate]
          split <;> rfl
        have hmix0 : mix (drawItems ops.toList H.next) fr0 F.fr (fun j => (Array.replicate ops.size false).getD j false) = fr0 := by
          apply List.ext_getElem?
          intro t
          rw [mix_get C.len]
          exact mixv_out fun x hx _ => hrep _
        have hempty : ∀ x ∈ drawItems ops.toList H.next, β x.name = none := by
          intro x hx
          cases hb : β x.name with
          | none => rfl
          | some y =>
            have := (hR.dom _ _ hb).1
            have := name_ge hx
            omega
        refine any_sound Ty hC hB D C (β0 := β) (w0 := w) hR.dom hQ ops.size _ 0 β a _ ⟨?_, ?_, Nat.zero_le _, ?_, ?_, rfl, ?_, ?_, ?_, ?_, ?_, ?_, ?_⟩ hsz
        · simp
        · intro x hx hb
          simp only [hrep] at hb
          cases hb
        · intro q e hq
          rw [hrep]
          constructor
          · intro hb; cases hb
          · intro hb; omega
        · rw [hmix0]; exact hF
        · rw [C.h0]; exact hR.bump _
        · rw [C.h0]
          refine ⟨β.le_refl, fun _ _ h => .inl h, fun b o hb _ => ⟨o, hb⟩, Nat.le_refl _, fun _ _ _ => rfl, rfl, rfl, rfl, by simp⟩
        · rw [C.h0]; simp
        · intro x hx hp
          simp only [hrep] at hp
          cases hp
        · intro x hx y hy _ _ _ hp
          rw [hrep] at hp
          cases hp
        · intro x hx _ _
          exact hempty x hx
        · intro x hx ha _
          rw [C.h0, AHeap.get_bump]
          exact namesFree_spec hfree x hx ha
      · cases h
    · cases h
  · cases h

end
end Go.Sx
