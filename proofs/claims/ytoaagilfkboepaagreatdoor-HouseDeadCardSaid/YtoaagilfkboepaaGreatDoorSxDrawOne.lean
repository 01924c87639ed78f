/-
  SX, part 15: regions that draw their order: items, masks, the runs of the interpreter (no program in sight).
-/
import Derived.Test.YtoaagilfkboepaaGreatDoorSxWriteThree
set_option linter.unusedSimpArgs false
set_option linter.unusedVariables false
namespace Go.Sx

/-! ### Bits -/

theorem bits_sub {m d : Nat} (h : (m &&& d) = m) {j : Nat} (hj : m.testBit j = true) : d.testBit j = true := by
  have : (m &&& d).testBit j = true := by rw [h]; exact hj
  rw [Nat.testBit_and] at this
  simp at this
  exact this.2

theorem bit_or (d i j : Nat) : (d ||| 2 ^ i).testBit j = (d.testBit j || decide (i = j)) := by
  rw [Nat.testBit_or, Nat.testBit_two_pow]

theorem bit_lt {m i j : Nat} (h : m < 2 ^ i) (hj : m.testBit j = true) : j < i := by
  rcases Nat.lt_or_ge j i with h1 | h1
  · exact h1
  · have h2 : m < 2 ^ j := Nat.lt_of_lt_of_le h (Nat.pow_le_pow_right (by omega) h1)
    rw [Nat.testBit_lt_two_pow h2] at hj
    cases hj

/-! ### Items -/

theorem masks_length : ∀ (l : List Oper) (acc : List Nat), (masks l acc).length = acc.length + l.length
  | [], acc => by simp [masks]
  | o :: l, acc => by rw [masks, masks_length l]; simp; omega

theorem masks_prefix : ∀ (l : List Oper) (acc : List Nat) (i : Nat), i < acc.length → (masks l acc)[i]? = acc[i]?
  | [], acc, i, _ => rfl
  | o :: l, acc, i, h => by
    rw [masks, masks_prefix l _ i (by simp; omega)]
    exact List.getElem?_append_left h

theorem masks_get : ∀ (l : List Oper) (acc : List Nat) (k : Nat) (o : Oper), l[k]? = some o →
    ∃ acc', acc'.length = acc.length + k ∧ (∀ i, i < acc'.length → (masks l acc)[i]? = acc'[i]?) ∧ (masks l acc)[acc.length + k]? = some (maskOf acc' o)
  | [], _, _, _, h => by simp at h
  | p :: l, acc, 0, o, h => by
    simp at h
    subst h
    refine ⟨acc, by simp, fun i hi => masks_prefix _ _ i hi, ?_⟩
    rw [masks, masks_prefix l _ _ (by simp)]
    simp
  | p :: l, acc, k + 1, o, h => by
    simp at h
    obtain ⟨acc', h1, h2, h3⟩ := masks_get l (acc ++ [maskOf acc p]) k o h
    refine ⟨acc', by rw [h1]; simp; omega, fun i hi => h2 i hi, ?_⟩
    rw [masks, ← h3]
    congr 1
    simp
    omega

theorem foldl_mask (acc : List Nat) : ∀ (es : List Edge) (s j : Nat),
    (es.foldl (fun s e => if Region.binds .any e then s ||| 2 ^ e.on ||| acc.getD e.on 0 else s) s).testBit j =
      (s.testBit j || es.any fun e => Region.binds .any e && (decide (e.on = j) || (acc.getD e.on 0).testBit j))
  | [], s, j => by simp
  | e :: es, s, j => by
    rw [List.foldl_cons, foldl_mask acc es, List.any_cons]
    cases hb : Region.binds .any e
    · simp
    · simp only [if_true, Nat.testBit_or, Nat.testBit_two_pow, Bool.true_and]
      simp [Bool.or_assoc]

theorem maskOf_bit (acc : List Nat) (o : Oper) (j : Nat) : (maskOf acc o).testBit j = o.after.toList.any fun e => Region.binds .any e && (decide (e.on = j) || (acc.getD e.on 0).testBit j) := by
  unfold maskOf
  rw [foldl_mask]
  simp

/-- What stands ahead of an operation: an edge's, or ahead of an edge's. -/
theorem mask_edges {ops : List Oper} {i : Nat} {o : Oper} {m : Nat} (ho : ops[i]? = some o) (hm : (masks ops [])[i]? = some m) :
    (∀ j, m.testBit j = true → ∃ e ∈ o.after.toList, Region.binds .any e = true ∧ (e.on = j ∨ ∃ m', (masks ops [])[e.on]? = some m' ∧ m'.testBit j = true)) ∧
    (∀ e ∈ o.after.toList, Region.binds .any e = true → m.testBit e.on = true) := by
  obtain ⟨acc', h1, h2, h3⟩ := masks_get ops [] i o ho
  simp only [List.length_nil, Nat.zero_add] at h1 h3
  rw [h3] at hm
  cases hm
  constructor
  · intro j hj
    rw [maskOf_bit, List.any_eq_true] at hj
    obtain ⟨e, he, hb⟩ := hj
    simp only [Bool.and_eq_true, Bool.or_eq_true, decide_eq_true_eq] at hb
    refine ⟨e, he, hb.1, hb.2.imp id fun hk => ?_⟩
    by_cases hlt : e.on < acc'.length
    · refine ⟨acc'[e.on], by rw [h2 _ hlt]; exact List.getElem?_eq_getElem hlt, ?_⟩
      rwa [List.getD_eq_getElem?_getD, List.getElem?_eq_getElem hlt] at hk
    · rw [List.getD_eq_getElem?_getD, List.getElem?_eq_none (by omega)] at hk
      simp at hk
  · intro e he hb
    rw [maskOf_bit, List.any_eq_true]
    exact ⟨e, he, by simp [hb]⟩

theorem items_length : ∀ (l : List Oper) (ms : List Nat) (i name : Nat), ms.length = l.length → (items l ms i name).length = l.length
  | [], _, _, _, _ => by simp [items]
  | o :: l, [], _, _, h => by simp at h
  | o :: l, m :: ms, i, name, h => by
    rw [items]
    simp only [List.length_cons]
    rw [items_length l ms _ _ (by simpa using h)]

theorem items_get : ∀ (l : List Oper) (ms : List Nat) (i name k : Nat) (x : Item), (items l ms i name)[k]? = some x →
    x.i = i + k ∧ l[k]? = some x.o ∧ ms[k]? = some x.m ∧ x.name = name + countAllocs (l.take k)
  | [], _, _, _, k, x, h => by simp [items] at h
  | o :: l, [], _, _, k, x, h => by simp [items] at h
  | o :: l, m :: ms, i, name, 0, x, h => by
    simp [items] at h
    subst h
    simp [countAllocs]
  | o :: l, m :: ms, i, name, k + 1, x, h => by
    simp only [items, List.getElem?_cons_succ] at h
    obtain ⟨h1, h2, h3, h4⟩ := items_get l ms _ _ k x h
    refine ⟨by omega, by simpa using h2, by simpa using h3, ?_⟩
    rw [h4, List.take_succ_cons, countAllocs]
    split <;> omega

theorem items_mem {l : List Oper} {ms : List Nat} {i name : Nat} {x : Item} (h : x ∈ items l ms i name) : ∃ k : Nat, (items l ms i name)[k]? = some x := by
  obtain ⟨k, hk, e⟩ := List.getElem_of_mem h
  exact ⟨k, by rw [List.getElem?_eq_getElem hk, e]⟩

theorem countAllocs_append (a b : List Oper) : countAllocs (a ++ b) = countAllocs a + countAllocs b := by
  induction a with
  | nil => simp [countAllocs]
  | cons o a ih => simp only [List.cons_append, countAllocs, ih]; omega

theorem countAllocs_lt {l : List Oper} {i j : Nat} {o : Oper} (h : l[i]? = some o) (ha : isAlloc o.op = true) (hij : i < j) : countAllocs (l.take i) < countAllocs (l.take j) := by
  have h1 : l.take j = l.take i ++ (l.take j).drop i := by
    have := List.take_append_drop i (l.take j)
    rw [List.take_take, Nat.min_eq_left (by omega)] at this
    exact this.symm
  have h2 : (l.take j)[i]? = some o := by rw [List.getElem?_take, if_pos hij, h]
  have hlt := (List.getElem?_eq_some_iff.1 h2).1
  have h3 : (l.take j).drop i = o :: (l.take j).drop (i + 1) := by
    rw [List.drop_eq_getElem_cons hlt, (List.getElem?_eq_some_iff.1 h2).2]
  rw [h1, countAllocs_append, h3]
  simp only [countAllocs, ha, if_true]
  omega

/-! ### What a region is asked -/

/-- The items of a region: what is known of them. -/
structure DrawOk (ops : List Oper) (nx : Nat) : Prop where
  low : ∀ x ∈ drawItems ops nx, x.m < 2 ^ x.i
  trans : ∀ x ∈ drawItems ops nx, ∀ y ∈ drawItems ops nx, x.m.testBit y.i = true → ∀ j, y.m.testBit j = true → x.m.testBit j = true
  dst : ∀ x ∈ drawItems ops nx, ∀ y ∈ drawItems ops nx, x.i ≠ y.i → ∀ d, x.o.dst = some d → y.o.dst ≠ some d
  dep : ∀ x ∈ drawItems ops nx, ∀ y ∈ drawItems ops nx, x.i ≠ y.i → ∀ d, x.o.dst = some d → d ∈ looks ops y.o → y.m.testBit x.i = true ∨ x.m.testBit y.i = true
  self : ∀ x ∈ drawItems ops nx, ∀ d, x.o.dst = some d → d ∉ looks ops x.o
  eff : ∀ x ∈ drawItems ops nx, ∀ y ∈ drawItems ops nx, x.i ≠ y.i → isEffect x.o.op = true → isEffect y.o.op = true → y.m.testBit x.i = true ∨ x.m.testBit y.i = true

section
variable {ops : List Oper} {nx : Nat}

theorem draw_get {k : Nat} {x : Item} (h : (drawItems ops nx)[k]? = some x) : x.i = k ∧ ops[k]? = some x.o ∧ (masks ops [])[k]? = some x.m ∧ x.name = nx + countAllocs (ops.take k) := by
  obtain ⟨h1, h2⟩ := items_get _ _ _ _ _ _ h
  exact ⟨by omega, h2⟩

theorem draw_mem {x : Item} (h : x ∈ drawItems ops nx) : (drawItems ops nx)[x.i]? = some x := by
  obtain ⟨k, hk⟩ := items_mem h
  rw [(draw_get hk).1]
  exact hk

theorem draw_eq {x y : Item} (hx : x ∈ drawItems ops nx) (hy : y ∈ drawItems ops nx) (h : x.i = y.i) : x = y := by
  have h1 := draw_mem hx
  have h2 := draw_mem hy
  rw [h, h2] at h1
  cases h1
  rfl

theorem draw_length : (drawItems ops nx).length = ops.length := items_length _ _ _ _ (by rw [masks_length]; simp)

theorem draw_lt {x : Item} (h : x ∈ drawItems ops nx) : x.i < ops.length := by
  rw [← draw_length (nx := nx)]
  exact (List.getElem?_eq_some_iff.1 (draw_mem h)).1

theorem draw_of_lt {i : Nat} (h : i < ops.length) : ∃ x ∈ drawItems ops nx, x.i = i := by
  have hl : i < (drawItems ops nx).length := by rw [draw_length]; exact h
  exact ⟨(drawItems ops nx)[i], List.getElem_mem hl, (draw_get (List.getElem?_eq_getElem hl)).1⟩

/-- The same item, its block's number counted from another place. -/
theorem draw_at (nx' : Nat) {x : Item} (h : x ∈ drawItems ops nx) : ∃ y ∈ drawItems ops nx', y.i = x.i ∧ y.o = x.o ∧ y.m = x.m := by
  have h1 := draw_get (draw_mem h)
  obtain ⟨y, hy, hi⟩ := draw_of_lt (nx := nx') (draw_lt h)
  have h2 := draw_get (draw_mem hy)
  refine ⟨y, hy, hi, ?_, ?_⟩
  · have := h2.2.1; rw [hi, h1.2.1] at this; exact (Option.some.inj this).symm
  · have := h2.2.2.1; rw [hi, h1.2.2.1] at this; exact (Option.some.inj this).symm

theorem name_ge {x : Item} (h : x ∈ drawItems ops nx) : nx ≤ x.name := by
  have := (draw_get (draw_mem h)).2.2.2
  omega

theorem name_lt {x : Item} (h : x ∈ drawItems ops nx) (ha : isAlloc x.o.op = true) : x.name < nx + countAllocs ops := by
  have h1 := draw_get (draw_mem h)
  have h2 := countAllocs_lt h1.2.1 ha (draw_lt h)
  rw [List.take_length] at h2
  omega

theorem name_ne {x y : Item} (hx : x ∈ drawItems ops nx) (hy : y ∈ drawItems ops nx) (ax : isAlloc x.o.op = true) (ay : isAlloc y.o.op = true) (h : x.i ≠ y.i) : x.name ≠ y.name := by
  have h1 := draw_get (draw_mem hx)
  have h2 := draw_get (draw_mem hy)
  rcases Nat.lt_or_gt_of_ne h with h3 | h3
  · have := countAllocs_lt h1.2.1 ax h3; omega
  · have := countAllocs_lt h2.2.1 ay h3; omega

theorem okDraw_spec (h : okDraw ops = true) (nx : Nat) : DrawOk ops nx := by
  have key : ∀ x ∈ drawItems ops nx, selfOk ops x = true ∧ ∀ y ∈ drawItems ops nx, pairOk ops x y = true := by
    intro x hx
    unfold okDraw at h
    rw [List.all_eq_true] at h
    obtain ⟨x', hx', e1, e2, e3⟩ := draw_at 0 hx
    have h1 := h x' hx'
    rw [Bool.and_eq_true, List.all_eq_true] at h1
    refine ⟨?_, fun y hy => ?_⟩
    · have := h1.1
      unfold selfOk at this ⊢
      rwa [e1, e2, e3] at this
    · obtain ⟨y', hy', f1, f2, f3⟩ := draw_at 0 hy
      have := h1.2 y' hy'
      unfold pairOk at this ⊢
      rwa [e1, e2, e3, f1, f2, f3] at this
  have pair : ∀ x ∈ drawItems ops nx, ∀ y ∈ drawItems ops nx, x.i ≠ y.i → (x.m.testBit y.i = true → (x.m &&& y.m) = y.m) ∧
      (∀ d, x.o.dst = some d → y.o.dst ≠ some d ∧ (d ∈ looks ops y.o → y.m.testBit x.i = true ∨ x.m.testBit y.i = true)) ∧
      (isEffect x.o.op = true → isEffect y.o.op = true → y.m.testBit x.i = true ∨ x.m.testBit y.i = true) := by
    intro x hx y hy hne
    have h1 := (key x hx).2 y hy
    unfold pairOk at h1
    rw [Bool.or_eq_true] at h1
    have h2 := h1.resolve_left (by simpa using hne)
    rw [Bool.and_eq_true, Bool.and_eq_true] at h2
    obtain ⟨⟨a, b⟩, c⟩ := h2
    refine ⟨fun hb => ?_, fun d hd => ?_, fun e1 e2 => ?_⟩
    · rw [hb] at a
      simpa using a
    · rw [hd] at b
      simp only [Bool.and_eq_true, Bool.or_eq_true, Bool.not_eq_true', bne_iff_ne, ne_eq] at b
      refine ⟨b.1, fun hm => ?_⟩
      rcases b.2 with (b2 | b2) | b2
      · rw [List.contains_iff_mem.2 hm] at b2
        cases b2
      · exact .inl b2
      · exact .inr b2
    · rw [e1, e2] at c
      simpa using c
  refine ⟨?_, ?_, ?_, ?_, ?_, ?_⟩
  · intro x hx
    have := (key x hx).1
    unfold selfOk at this
    rw [Bool.and_eq_true] at this
    simpa using this.1
  · intro x hx y hy hb j hj
    have hne : x.i ≠ y.i := by
      intro e
      have h1 := (key x hx).1
      unfold selfOk at h1
      rw [Bool.and_eq_true] at h1
      have := bit_lt (by simpa using h1.1) hb
      omega
    have := (pair x hx y hy hne).1 hb
    exact bits_sub (by rw [Nat.and_comm]; exact this) hj
  · intro x hx y hy hne d hd
    exact ((pair x hx y hy hne).2.1 d hd).1
  · intro x hx y hy hne d hd hm
    exact ((pair x hx y hy hne).2.1 d hd).2 hm
  · intro x hx d hd
    have h1 := (key x hx).1
    unfold selfOk at h1
    rw [Bool.and_eq_true, hd] at h1
    intro hm
    have := h1.2
    simp only [List.contains_iff_mem.2 hm] at this
    cases this
  · intro x hx y hy hne e1 e2
    exact (pair x hx y hy hne).2.2 e1 e2

end
end Go.Sx

/-
  SX, part 16: an operation looks at its operands alone; runs in another order.
-/
namespace Go.Sx

theorem getAll_congr {fr fr' : AFrame} : ∀ {l : List Operand}, (∀ x ∈ l, fr.get x = fr'.get x) → getAll fr l = getAll fr' l
  | [], _ => rfl
  | x :: l, h => by
    rw [getAll, getAll, h x (by simp), getAll_congr fun y hy => h y (by simp [hy])]

theorem getParts_congr {fr fr' : AFrame} : ∀ {l : List (Nat × Operand)}, (∀ x ∈ l.map (·.2), fr.get x = fr'.get x) → getParts fr l = getParts fr' l
  | [], _ => rfl
  | (i, x) :: l, h => by
    rw [getParts, getParts, h x (by simp), getParts_congr fun y hy => h y (by simp only [List.map_cons, List.mem_cons]; exact .inr hy)]

section
variable {types : TypeId → Option TInfo} {fr fr' : AFrame}

theorem aPure_congr {o : Op} (h : ∀ x ∈ o.operands, fr.get x = fr'.get x) : aPure types fr o = aPure types fr' o := by
  cases o
  case call c =>
    obtain ⟨callee, args, ts⟩ := c
    have hA : ∀ x ∈ args.toList, fr.get x = fr'.get x := fun x hx => h x (by
      simp only [Op.operands, Call.operands]
      exact Array.mem_append.2 (.inr (Array.mem_toList_iff.1 hx)))
    cases callee with
    | value f => rfl
    | invoke r m => rfl
    | builtin b =>
      cases b <;> first | rfl | skip
      case len =>
        simp only [aPure]
        rcases hl : args.toList with _ | ⟨x, _ | ⟨y, l⟩⟩
        · rfl
        · have e := hA x (by rw [hl]; simp)
          cases ts[0]? with
          | none => rfl
          | some t => simp only [e]
        · rfl
      case cap =>
        simp only [aPure]
        rcases hl : args.toList with _ | ⟨x, _ | ⟨y, l⟩⟩
        · rfl
        · have e := hA x (by rw [hl]; simp)
          cases ts[0]? with
          | none => rfl
          | some t => simp only [e]
        · rfl
      case min => simp only [aPure, getAll_congr hA]
      case max => simp only [aPure, getAll_congr hA]
  case build t ps =>
    simp only [aPure]
    rw [getParts_congr (fr := fr) (fr' := fr') fun x hx => h x (by simp only [Op.operands]; simpa using hx)]
  case makeFunc f first captured =>
    have h1 : getAll fr first.toList = getAll fr' first.toList := getAll_congr fun x hx => h x (by simp only [Op.operands]; exact Array.mem_append.2 (.inl (Array.mem_toList_iff.1 hx)))
    have h2 : getAll fr captured.toList = getAll fr' captured.toList := getAll_congr fun x hx => h x (by simp only [Op.operands]; exact Array.mem_append.2 (.inr (Array.mem_toList_iff.1 hx)))
    cases f <;> simp only [aPure, h1, h2]
  case slice t x lo hi mx =>
    have hx := h x (by simp [Op.operands])
    have hlo : ∀ y, lo = some y → fr.get y = fr'.get y := fun y hy => h y (by simp [Op.operands, hy])
    have hhi : ∀ y, hi = some y → fr.get y = fr'.get y := fun y hy => h y (by simp [Op.operands, hy])
    have hmx : ∀ y, mx = some y → fr.get y = fr'.get y := fun y hy => h y (by simp [Op.operands, hy])
    simp only [aPure, hx]
    cases lo <;> cases hi <;> cases mx <;> simp_all
  all_goals first
    | rfl
    | (simp only [Op.operands] at h
       simp only [aPure]
       simp_all)

theorem aRead_congr {H : AHeap} {o : Op} (h : ∀ x ∈ o.operands, fr.get x = fr'.get x) : aRead types fr H o = aRead types fr' H o := by
  cases o
  case call c =>
    obtain ⟨callee, args, ts⟩ := c
    have hA : ∀ x ∈ args.toList, fr.get x = fr'.get x := fun x hx => h x (by
      simp only [Op.operands, Call.operands]
      exact Array.mem_append.2 (.inr (Array.mem_toList_iff.1 hx)))
    cases callee with
    | value f => rfl
    | invoke r m => rfl
    | builtin b =>
      cases b <;> first | rfl | skip
      case len =>
        simp only [aRead]
        rcases hl : args.toList with _ | ⟨x, _ | ⟨y, l⟩⟩
        · rfl
        · have e := hA x (by rw [hl]; simp)
          cases ts[0]? with
          | none => rfl
          | some t => simp only [e]
        · rfl
  all_goals first
    | rfl
    | (simp only [Op.operands] at h
       simp only [aRead]
       simp_all)

theorem aAlloc_congr {o : Op} (h : ∀ x ∈ o.operands, fr.get x = fr'.get x) : aAlloc types fr o = aAlloc types fr' o := by
  cases o
  case buildSlice t n ps =>
    simp only [aAlloc]
    rw [getParts_congr (fr := fr) (fr' := fr') fun x hx => h x (by simp only [Op.operands]; simpa using hx)]
  case makeMap t r => cases r <;> rfl
  all_goals first
    | rfl
    | (simp only [Op.operands] at h
       simp only [aAlloc]
       simp_all)

theorem aWrite_congr {H : AHeap} {o : Op} (h : ∀ x ∈ o.operands, fr.get x = fr'.get x) : aWrite types fr H o = aWrite types fr' H o := by
  cases o
  case call c =>
    obtain ⟨callee, args, ts⟩ := c
    have hA : ∀ x ∈ args.toList, fr.get x = fr'.get x := fun x hx => h x (by
      simp only [Op.operands, Call.operands]
      exact Array.mem_append.2 (.inr (Array.mem_toList_iff.1 hx)))
    cases callee with
    | value f => rfl
    | invoke r m => rfl
    | builtin b =>
      cases b <;> first | rfl | skip
      case append =>
        simp only [aWrite]
        rcases hl : args.toList with _ | ⟨x, _ | ⟨y, _ | ⟨z, l⟩⟩⟩
        · rfl
        · rfl
        · have e := hA x (by rw [hl]; simp)
          have e' := hA y (by rw [hl]; simp)
          cases ts[0]? with
          | none => rfl
          | some t => cases ts[1]? with
            | none => rfl
            | some u => simp only [e, e']
        · rfl
      case copy =>
        simp only [aWrite]
        rcases hl : args.toList with _ | ⟨x, _ | ⟨y, _ | ⟨z, l⟩⟩⟩
        · rfl
        · rfl
        · have e := hA x (by rw [hl]; simp)
          have e' := hA y (by rw [hl]; simp)
          cases ts[0]? with
          | none => rfl
          | some t => simp only [e, e']
        · rfl
      case delete =>
        simp only [aWrite]
        rcases hl : args.toList with _ | ⟨x, _ | ⟨y, _ | ⟨z, l⟩⟩⟩
        · rfl
        · rfl
        · have e := hA x (by rw [hl]; simp)
          have e' := hA y (by rw [hl]; simp)
          cases ts[0]? with
          | none => rfl
          | some t => simp only [e, e']
        · rfl
  all_goals first
    | rfl
    | (simp only [Op.operands] at h
       simp only [aWrite]
       simp_all)

theorem aTarget_congr {cfg : Cfg} {H : AHeap} {c : Call} (h : ∀ x ∈ c.operands, fr.get x = fr'.get x) : aTarget cfg fr H c = aTarget cfg fr' H c := by
  obtain ⟨callee, args, ts⟩ := c
  have hA : getAll fr args.toList = getAll fr' args.toList := getAll_congr fun x hx => h x (by
    simp only [Call.operands]
    exact Array.mem_append.2 (.inr (Array.mem_toList_iff.1 hx)))
  cases callee with
  | builtin b => rfl
  | value f =>
    have := h f (by simp [Call.operands])
    simp only [aTarget, hA, this]
  | invoke r m =>
    have := h r (by simp [Call.operands])
    simp only [aTarget, hA, this]

theorem aOp_congr {cfg : Cfg} {call : CallFn} {name : Nat} {H : AHeap} {o : Op} (h : ∀ x ∈ o.operands, fr.get x = fr'.get x) : aOp cfg call name fr H o = aOp cfg call name fr' H o := by
  unfold aOp aValue
  rw [aPure_congr h, aRead_congr h, aAlloc_congr h, aWrite_congr h]
  split <;> first | rfl | skip
  rename_i hk
  clear hk
  cases o
  case call c => simp only [aTarget_congr (cfg := cfg) (H := H) (c := c) (by simpa [Op.operands] using h)]
  all_goals rfl

end

theorem look_operands {ops : List Oper} {o : Oper} {fr fr' : AFrame} (h : ∀ t ∈ looks ops o, fr[t]? = fr'[t]?) : ∀ x ∈ o.op.operands, fr.get x = fr'.get x := by
  intro x hx
  cases x with
  | tmp t => exact h t (List.mem_append_left _ (List.mem_filterMap.2 ⟨.tmp t, Array.mem_toList_iff.2 hx, rfl⟩))
  | const v => rfl
  | global g => rfl
  | func f => rfl

theorem look_wanted {ops : List Oper} {o : Oper} {fr fr' : AFrame} (h : ∀ t ∈ looks ops o, fr[t]? = fr'[t]?) : aWanted ops fr o = aWanted ops fr' o := by
  unfold aWanted
  cases hg : o.guard with
  | none => rfl
  | some g =>
    obtain ⟨j, want⟩ := g
    simp only
    cases hj : ops[j]? with
    | none => rfl
    | some p =>
      simp only
      cases hd : p.dst with
      | none => rfl
      | some d =>
        simp only
        rw [h d (List.mem_append_right _ (by simp [hg, hj, hd]))]

theorem readAll_congr {types : TypeId → Option TInfo} {fr fr' : AFrame} {o : Op} (h : ∀ x ∈ o.operands, fr.get x = fr'.get x) : ∀ l : List AHeap, readAll types fr o l = readAll types fr' o l
  | [] => rfl
  | [H] => aRead_congr h
  | H :: K :: l => by
    unfold readAll
    rw [aRead_congr h, readAll_congr h (K :: l)]

/-! ### The same value -/

mutual
theorem same_eq : ∀ {a b : AVal}, AVal.same a b = true → a = b
  | .bool a, b, h => by cases b <;> simp_all [AVal.same]
  | .int k a, b, h => by cases b <;> simp_all [AVal.same]
  | .str a, b, h => by cases b <;> simp_all [AVal.same]
  | .nilptr, b, h => by cases b <;> simp_all [AVal.same]
  | .ptr a i, b, h => by cases b <;> simp_all [AVal.same]
  | .nilslice, b, h => by cases b <;> simp_all [AVal.same]
  | .slice a i n c z e, b, h => by cases b <;> simp_all [AVal.same]
  | .nilmap, b, h => by cases b <;> simp_all [AVal.same]
  | .map a, b, h => by cases b <;> simp_all [AVal.same]
  | .func f x y, b, h => by
    cases b <;> first | (simp [AVal.same] at h; done) | skip
    simp only [AVal.same, Bool.and_eq_true, beq_iff_eq] at h
    rw [h.1.1, sames_eq h.1.2, sames_eq h.2]
  | .nilFunc, b, h => by cases b <;> simp_all [AVal.same]
  | .iface t v, b, h => by
    cases b <;> first | (simp [AVal.same] at h; done) | skip
    simp only [AVal.same, Bool.and_eq_true, beq_iff_eq] at h
    rw [h.1, same_eq h.2]
  | .nilIface, b, h => by cases b <;> simp_all [AVal.same]
  | .agg x, b, h => by
    cases b <;> first | (simp [AVal.same] at h; done) | skip
    simp only [AVal.same] at h
    rw [sames_eq h]
  | .tuple x, b, h => by
    cases b <;> first | (simp [AVal.same] at h; done) | skip
    simp only [AVal.same] at h
    rw [sames_eq h]
theorem sames_eq : ∀ {a b : List AVal}, AVal.sames a b = true → a = b
  | [], b, h => by cases b <;> simp_all [AVal.sames]
  | a :: l, b, h => by
    cases b with
    | nil => simp [AVal.sames] at h
    | cons b m =>
      simp only [AVal.sames, Bool.and_eq_true] at h
      rw [same_eq h.1, sames_eq h.2]
end

theorem readAll_all {types : TypeId → Option TInfo} {fr : AFrame} {o : Op} {v : AVal} : ∀ {l : List AHeap}, readAll types fr o l = some v → ∀ H ∈ l, aRead types fr H o = some v
  | [], h, _, _ => by cases h
  | [H], h, K, hK => by
    simp at hK
    subst hK
    exact h
  | H :: K :: l, h, G, hG => by
    unfold readAll at h
    split at h
    · rename_i x u hx hu
      split at h
      · rename_i hs
        cases h
        have := same_eq hs
        subst this
        rcases List.mem_cons.1 hG with rfl | hG
        · exact hx
        · exact readAll_all hu G hG
      · cases h
    · cases h

end Go.Sx

/-
  SX, part 17: what one run of a region that draws tells of its operations, whatever their order.
-/
namespace Go.Sx

/-! ### Runs -/

/-- Steps of items, one behind the other. -/
inductive Reach (all : List Item) : DSt → DSt → Prop
  | refl (s : DSt) : Reach all s s
  | step {s s1 s2 : DSt} {x : Item} {v : AVal} (hx : x ∈ all) (hn : s.done.testBit x.i = false) (hm : ∀ j, x.m.testBit j = true → s.done.testBit j = true)
      (hd : s1.done = s.done ||| 2 ^ x.i) (hf : s1.fr = put s.fr x.o.dst v) (h : Reach all s1 s2) : Reach all s s2

section
variable {all : List Item}

theorem Reach.trans {a b c : DSt} (h : Reach all a b) (g : Reach all b c) : Reach all a c := by
  induction h with
  | refl => exact g
  | step hx hn hm hd hf _ ih => exact .step hx hn hm hd hf (ih g)

theorem Reach.mono {a b : DSt} (h : Reach all a b) {j : Nat} (hj : a.done.testBit j = true) : b.done.testBit j = true := by
  induction h with
  | refl => exact hj
  | step hx hn hm hd hf _ ih => exact ih (by rw [hd, bit_or, hj]; rfl)

theorem Reach.length {a b : DSt} (h : Reach all a b) : b.fr.length = a.fr.length := by
  induction h with
  | refl => rfl
  | step hx hn hm hd hf _ ih => rw [ih, hf, put_length]

/-- A slot whose writers are done already, or are not done, stays. -/
theorem Reach.keep {a b : DSt} (h : Reach all a b) {t : Nat} (ht : ∀ x ∈ all, x.o.dst = some t → a.done.testBit x.i = true ∨ b.done.testBit x.i = false) : b.fr[t]? = a.fr[t]? := by
  induction h with
  | refl => rfl
  | step hx hn hm hd hf h ih =>
    rename_i s s1 s2 x v
    have hdone : s1.done.testBit x.i = true := by rw [hd, bit_or]; simp
    have hne : x.o.dst ≠ some t := by
      intro e
      rcases ht x hx e with h1 | h1
      · rw [hn] at h1; cases h1
      · rw [h.mono hdone] at h1; cases h1
    rw [ih, hf, put_get, if_neg (fun hc => hne hc.1)]
    intro y hy e
    rcases ht y hy e with h1 | h1
    · exact .inl (by rw [hd, bit_or, h1]; rfl)
    · exact .inr h1

/-- What stands ahead of what is done is done. -/
def Shut (all : List Item) (p : Nat → Bool) : Prop := ∀ x ∈ all, p x.i = true → ∀ j, x.m.testBit j = true → p j = true

theorem Reach.shut {ops : List Oper} {nx : Nat} {a b : DSt} (h : Reach (drawItems ops nx) a b) (ha : Shut (drawItems ops nx) fun j => a.done.testBit j) : Shut (drawItems ops nx) fun j => b.done.testBit j := by
  induction h with
  | refl => exact ha
  | step hx hn hm hd hf h ih =>
    rename_i s s1 s2 x v
    refine ih fun y hy hy1 j hj => ?_
    simp only at hy1 ⊢
    rw [hd, bit_or] at hy1 ⊢
    by_cases e : x.i = y.i
    · have := draw_eq hx hy e
      subst this
      rw [hm j hj]; rfl
    · simp only [e, decide_false, Bool.or_false] at hy1
      rw [show s.done.testBit j = true from ha y hy hy1 j hj]; rfl

end

section
variable {cfg : Cfg} {call : CallFn} {ops : List Oper} {nx : Nat}

/-- What a quiet step does. -/
inductive Quiet (cfg : Cfg) (ops : List Oper) (effs : List Item) (s : DSt) (x : Item) (s1 : DSt) : AVal → Prop
  | skip (hw : aWanted ops s.fr x.o = false) (hH : s1.H = s.H) : Quiet cfg ops effs s x s1 (.tuple [])
  | value (v : AVal) (hw : aWanted ops s.fr x.o = true) (ha : isAlloc x.o.op = false) (hH : s1.H = s.H)
      (h : aPure cfg.types s.fr x.o.op = some v ∨ readAll cfg.types s.fr x.o.op (s.snaps.take (s.snaps.length - countIn effs x.m)) = some v) : Quiet cfg ops effs s x s1 v
  | alloc (obj : AObj) (ans : Nat → AVal) (hw : aWanted ops s.fr x.o = true) (ha : isAlloc x.o.op = true) (h : aAlloc cfg.types s.fr x.o.op = some (obj, ans)) (hH : s1.H = s.H.set x.name obj) :
      Quiet cfg ops effs s x s1 (ans x.name)

theorem atTurn_spec {s : DSt} {x : Item} (h : atTurn s x = true) : s.done.testBit x.i = false ∧ ∀ j, x.m.testBit j = true → s.done.testBit j = true := by
  unfold atTurn at h
  rw [Bool.and_eq_true, beq_iff_eq] at h
  exact ⟨by simpa using h.2, fun j hj => bits_sub h.1 hj⟩

theorem quietStep_spec {effs : List Item} {s s1 : DSt} {x : Item} (h : quietStep cfg ops effs s x = some s1) :
    s.done.testBit x.i = false ∧ (∀ j, x.m.testBit j = true → s.done.testBit j = true) ∧ isEffect x.o.op = false ∧ s1.snaps = s.snaps ∧ s1.done = s.done ||| 2 ^ x.i ∧
      ∃ v, s1.fr = put s.fr x.o.dst v ∧ Quiet cfg ops effs s x s1 v := by
  unfold quietStep at h
  split at h
  · rename_i ht
    obtain ⟨h1, h2⟩ := atTurn_spec ht
    split at h
    · rename_i hw
      split at h
      · rename_i hk
        have ha : isAlloc x.o.op = false := by unfold isAlloc; rw [hk]
        have he : isEffect x.o.op = false := by unfold isEffect; rw [hk]
        split at h
        · rename_i v hv
          cases h
          refine ⟨h1, h2, he, rfl, rfl, v, rfl, .value v hw ha rfl ?_⟩
          split at hv
          · rename_i u hu; cases hv; exact .inl hu
          · exact .inr hv
        · cases h
      · rename_i hk
        have ha : isAlloc x.o.op = false := by unfold isAlloc; rw [hk]
        have he : isEffect x.o.op = false := by unfold isEffect; rw [hk]
        split at h
        · rename_i v hv
          cases h
          refine ⟨h1, h2, he, rfl, rfl, v, rfl, .value v hw ha rfl ?_⟩
          split at hv
          · rename_i u hu; cases hv; exact .inl hu
          · exact .inr hv
        · cases h
      · rename_i hk
        have ha : isAlloc x.o.op = true := by unfold isAlloc; rw [hk]
        have he : isEffect x.o.op = false := by unfold isEffect; rw [hk]
        split at h
        · rename_i obj ans hv
          cases h
          exact ⟨h1, h2, he, rfl, rfl, _, rfl, .alloc obj ans hw ha hv rfl⟩
        · cases h
      · cases h
    · rename_i hw
      split at h
      · cases h
      · rename_i he
        cases h
        exact ⟨h1, h2, by simpa using he, rfl, rfl, _, rfl, .skip (by simpa using hw) rfl⟩
  · cases h

theorem effectStep_spec {s s1 : DSt} {x : Item} (h : effectStep cfg call ops s x = some s1) :
    s.done.testBit x.i = false ∧ (∀ j, x.m.testBit j = true → s.done.testBit j = true) ∧ s1.snaps = s1.H :: s.snaps ∧ s1.done = s.done ||| 2 ^ x.i ∧
      ∃ v, s1.fr = put s.fr x.o.dst v ∧ (aWanted ops s.fr x.o = false ∧ v = .tuple [] ∧ s1.H = s.H ∨ aWanted ops s.fr x.o = true ∧ aOp cfg call x.name s.fr s.H x.o.op = some (v, s1.H)) := by
  unfold effectStep at h
  split at h
  · rename_i ht
    obtain ⟨h1, h2⟩ := atTurn_spec ht
    split at h
    · rename_i hw
      split at h
      · rename_i v H' hv
        cases h
        exact ⟨h1, h2, rfl, rfl, v, rfl, .inr ⟨hw, hv⟩⟩
      · cases h
    · rename_i hw
      cases h
      exact ⟨h1, h2, rfl, rfl, _, rfl, .inl ⟨by simpa using hw, rfl, rfl⟩⟩
  · cases h

/-- Quiet steps, one behind the other, of items out of a set. -/
inductive QRun (cfg : Cfg) (ops : List Oper) (all effs : List Item) (need : Nat) : DSt → DSt → Prop
  | refl (s : DSt) : QRun cfg ops all effs need s s
  | step {s s1 s2 : DSt} {x : Item} (hx : x ∈ all) (hneed : need.testBit x.i = true) (hq : quietStep cfg ops effs s x = some s1) (h : QRun cfg ops all effs need s1 s2) : QRun cfg ops all effs need s s2

theorem runQuiet_spec {all effs : List Item} {need : Nat} : ∀ {l : List Item} {s t : DSt}, (∀ x ∈ l, x ∈ all) → runQuiet cfg ops effs need l s = some t → QRun cfg ops all effs need s t
  | [], s, t, _, h => by cases h; exact .refl _
  | x :: l, s, t, hl, h => by
    unfold runQuiet at h
    split at h
    · rename_i hc
      rw [Bool.and_eq_true] at hc
      split at h
      · rename_i s1 hq
        exact .step (hl x (by simp)) hc.1 hq (runQuiet_spec (fun y hy => hl y (by simp [hy])) h)
      · cases h
    · exact runQuiet_spec (fun y hy => hl y (by simp [hy])) h

section
variable {all effs : List Item} {need : Nat}

theorem QRun.reach {s t : DSt} (h : QRun cfg ops all effs need s t) : Reach all s t := by
  induction h with
  | refl => exact .refl _
  | step hx _ hq _ ih =>
    obtain ⟨h1, h2, _, _, h3, v, h4, _⟩ := quietStep_spec hq
    exact .step hx h1 h2 h3 h4 ih

theorem QRun.snaps {s t : DSt} (h : QRun cfg ops all effs need s t) : t.snaps = s.snaps := by
  induction h with
  | refl => rfl
  | step hx _ hq _ ih => rw [ih, (quietStep_spec hq).2.2.2.1]

theorem QRun.trans {a b c : DSt} (h : QRun cfg ops all effs need a b) (g : QRun cfg ops all effs need b c) : QRun cfg ops all effs need a c := by
  induction h with
  | refl => exact g
  | step hx hn hq _ ih => exact .step hx hn hq (ih g)
end

/-- Where an item was done. -/
theorem QRun.at {effs : List Item} {need : Nat} {s t : DSt} (h : QRun cfg ops (drawItems ops nx) effs need s t) {x : Item} (hx : x ∈ drawItems ops nx) (h0 : s.done.testBit x.i = false) (h1 : t.done.testBit x.i = true) :
    ∃ s1 s2, QRun cfg ops (drawItems ops nx) effs need s s1 ∧ need.testBit x.i = true ∧ quietStep cfg ops effs s1 x = some s2 ∧ QRun cfg ops (drawItems ops nx) effs need s2 t := by
  induction h with
  | refl => rw [h0] at h1; cases h1
  | step hy hn hq h ih =>
    rename_i s s1 s2 y
    by_cases e : y.i = x.i
    · have := draw_eq hy hx e
      subst this
      exact ⟨s, s1, .refl _, hn, hq, h⟩
    · have hd := (quietStep_spec hq).2.2.2.2.1
      obtain ⟨a, b, p, q, r, u⟩ := ih (by rw [hd, bit_or, h0]; simp [e]) h1
      exact ⟨a, b, .step hy hn hq p, q, r, u⟩

/-- The heap behind: what it held, and what was made. -/
theorem QRun.heap {effs : List Item} {need : Nat} {s t : DSt} (h : QRun cfg ops (drawItems ops nx) effs need s t) : t.H.next = s.H.next ∧ ∀ b o, t.H.get b = some o → s.H.get b = some o ∨
    ∃ x ∈ drawItems ops nx, s.done.testBit x.i = false ∧ t.done.testBit x.i = true ∧ b = x.name ∧ isAlloc x.o.op = true ∧
      ∃ s1 s2, QRun cfg ops (drawItems ops nx) effs need s s1 ∧ quietStep cfg ops effs s1 x = some s2 ∧ QRun cfg ops (drawItems ops nx) effs need s2 t ∧ aWanted ops s1.fr x.o = true ∧ ∃ ans, aAlloc cfg.types s1.fr x.o.op = some (o, ans) := by
  induction h with
  | refl => exact ⟨rfl, fun b o h => .inl h⟩
  | step hy hn hq h ih =>
    rename_i s s1 s2 y
    obtain ⟨q1, q2, q3, q4, q5, v, q6, q7⟩ := quietStep_spec hq
    obtain ⟨i1, i2⟩ := ih
    have hnext : s1.H.next = s.H.next := by cases q7 <;> simp [*]
    refine ⟨i1.trans hnext, fun b o hb => ?_⟩
    rcases i2 b o hb with h3 | ⟨x, hx, x1, x2, x3, x4, a, c, x5, x6, x7, x8, x9⟩
    · cases q7 with
      | skip hw hH => rw [hH] at h3; exact .inl h3
      | value v hw ha hH _ => rw [hH] at h3; exact .inl h3
      | alloc obj ans hw ha hal hH =>
        rw [hH, AHeap.get_set] at h3
        split at h3
        · rename_i e
          cases h3
          exact .inr ⟨y, hy, q1, h.reach.mono (by rw [q5, bit_or]; simp), e, ha, s, s1, .refl _, hq, h, hw, ans, hal⟩
        · exact .inl h3
    · refine .inr ⟨x, hx, ?_, x2, x3, x4, a, c, .step hy hn hq x5, x6, x7, x8, x9⟩
      cases hz : s.done.testBit x.i with
      | false => rfl
      | true => rw [q5, bit_or, hz] at x1; cases x1

/-! ### The stages -/

theorem stages {effs all : List Item} {most : Nat} : ∀ {l : List Item} {st F : DSt}, runDraw cfg call ops effs all most l st = some F →
    ∃ S T : Nat → DSt, S 0 = st ∧ (∀ (k : Nat) x, l[k]? = some x → runQuiet cfg ops effs x.m all (S k) = some (T k) ∧ effectStep cfg call ops (T k) x = some (S (k + 1))) ∧ runQuiet cfg ops effs most all (S l.length) = some F
  | [], st, F, h => ⟨fun _ => st, fun _ => st, rfl, fun k x hx => by simp at hx, h⟩
  | x :: l, st, F, h => by
    unfold runDraw at h
    split at h
    · cases h
    · rename_i s1 h1
      split at h
      · cases h
      · rename_i s2 h2
        obtain ⟨S, T, a, b, c⟩ := stages h
        refine ⟨fun | 0 => st | k + 1 => S k, fun | 0 => s1 | k + 1 => T k, rfl, fun k y hy => ?_, c⟩
        cases k with
        | zero => simp at hy; subst hy; exact ⟨h1, by rw [h2]; exact congrArg some a.symm⟩
        | succ k => simp at hy; exact b k y hy

theorem countIn_le (m : Nat) : ∀ (effs : List Item) (k : Nat), (∀ (q : Nat) e, effs[q]? = some e → m.testBit e.i = true → q < k) → countIn effs m ≤ k
  | [], k, _ => by simp [countIn]
  | e :: l, 0, h => by
    have h0 : m.testBit e.i = false := by
      cases hb : m.testBit e.i with
      | false => rfl
      | true => have := h 0 e (by simp) hb; omega
    have := countIn_le m l 0 fun q f hf hb => by have := h (q + 1) f (by simpa using hf) hb; omega
    simp only [countIn, h0, Bool.false_eq_true, if_false]
    omega
  | e :: l, k + 1, h => by
    have := countIn_le m l k fun q f hf hb => by have := h (q + 1) f (by simpa using hf) hb; omega
    simp only [countIn]
    split <;> omega

end
end Go.Sx
