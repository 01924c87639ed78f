/-
  SX, part 23: functions of the library that are answered by a Lean function: what they answer.
-/
import Derived.Test.YtoaagilfkboepaaGreatDoorSxCodeAll
import Derived.Lib.ItoaNum
import Derived.Below
import Derived.Deep.Draws
import Derived.Sort.Grow
import Derived.Lib.SplitLaws
import Derived.Lib.Split
import Derived.Lib.LaidTab
import Derived.Lib.Join
import Derived.Lib.Atoi
import Derived.Lib.ConvBytes
set_option linter.unusedSimpArgs false
set_option linter.unusedVariables false
namespace Go.Sx

/-- A text cut at each byte c. -/
def splitC (c : UInt8) : List UInt8 → List (List UInt8)
  | [] => [[]]
  | x :: l => if x = c then [] :: splitC c l else match splitC c l with
    | p :: ps => (x :: p) :: ps
    | [] => [[x]]

/-- A text cut at the first byte c. -/
def cutC (c : UInt8) : List UInt8 → Option (List UInt8 × List UInt8)
  | [] => none
  | x :: l => if x = c then some ([], l) else match cutC c l with
    | some (a, b) => some (x :: a, b)
    | none => none

def joinL (sep : List UInt8) : List (List UInt8) → List UInt8
  | [] => []
  | [x] => x
  | x :: y :: l => x ++ (sep ++ joinL sep (y :: l))

def strsOf : List AVal → Option (List (List UInt8))
  | [] => some []
  | .str s :: l => match strsOf l with
    | some r => some (s :: r)
    | none => none
  | _ :: _ => none

def isPre : List UInt8 → List UInt8 → Bool
  | [], _ => true
  | _ :: _, [] => false
  | a :: l, b :: m => if a = b then isPre l m else false

def pClone : List AVal → AHeap → Option (AVal × AHeap)
  | [.str s], H => some (.str s, H)
  | _, _ => none

def pItoa : List AVal → AHeap → Option (AVal × AHeap)
  | [.int .i64 n], H => some (.str (Lib.itoa n), H)
  | _, _ => none

def digitsOf : List UInt8 → Option Nat → Option Nat
  | [], a => a
  | c :: l, a => if 48 ≤ c.toNat ∧ c.toNat ≤ 57 then digitsOf l (some (a.getD 0 * 10 + (c.toNat - 48))) else none

def pAtoi : List AVal → AHeap → Option (AVal × AHeap)
  | [.str s], H => match digitsOf s none with
    | some n => if s.length ≤ 15 then some (.tuple [.int .i64 n, .nilIface], H) else none
    | none => none
  | _, _ => none

def pSplit : List AVal → AHeap → Option (AVal × AHeap)
  | [.str s, .str [c]], H => let l := splitC c s
    some (.slice H.next 0 l.length l.length 1 true, (H.bump 1).set H.next (.cells (l.map .str) false none))
  | _, _ => none

def pJoin : List AVal → AHeap → Option (AVal × AHeap)
  | [.slice b off len _ 1 _, .str sep], H => match H.get b with
    | some (.cells vs _ _) => match readCells vs off len with
      | some l => match strsOf l with
        | some ss => some (.str (joinL sep ss), H)
        | none => none
      | none => none
    | _ => none
  | [.nilslice, .str _], H => some (.str [], H)
  | _, _ => none

def pCut : List AVal → AHeap → Option (AVal × AHeap)
  | [.str s, .str [c]], H => match cutC c s with
    | some (a, b) => some (.tuple [.str a, .str b, .bool true], H)
    | none => some (.tuple [.str s, .str [], .bool false], H)
  | _, _ => none

def pHasPrefix : List AVal → AHeap → Option (AVal × AHeap)
  | [.str s, .str p], H => some (.bool (isPre p s), H)
  | _, _ => none

def pTrimSuffix : List AVal → AHeap → Option (AVal × AHeap)
  | [.str s, .str p], H => some (.str (if p.length ≤ s.length ∧ s.drop (s.length - p.length) = p then s.take (s.length - p.length) else s), H)
  | _, _ => none

def pMapsClone : List AVal → AHeap → Option (AVal × AHeap)
  | [.map b], H => match H.get b with
    | some (.map es c) => some (.map H.next, (H.bump 1).set H.next (.map es c))
    | _ => none
  | [.nilmap], H => some (.nilmap, H)
  | _, _ => none

def pCopyCheck : List AVal → AHeap → Option (AVal × AHeap)
  | [.ptr b o], H => match H.get b with
    | some (.cells vs false ty) => match writeCells vs o [.ptr b o] with
      | some vs' => some (.tuple [], H.set b (.cells vs' false ty))
      | none => none
    | _ => none
  | _, _ => none

def pBuilderString : List AVal → AHeap → Option (AVal × AHeap)
  | [.ptr b o], H => match H.get b with
    | some (.cells vs _ _) => match vs[o + 1]? with
      | some .nilslice => some (.str [], H)
      | some (.slice c off n _ _ _) => match H.get c with
        | some (.cells us _ ty) => match readCells us off n with
          | some l => match bytesOf l with
            | some s => some (.str s, H.set c (.cells us true ty))
            | none => none
          | none => none
        | _ => none
      | _ => none
    | _ => none
  | _, _ => none

def pClothRead : List AVal → AHeap → Option (AVal × AHeap)
  | [.ptr b 0, .int .i64 row], H => match H.get b with
    | some (.cells (.slice pb po pn _ _ _ :: .nilslice :: .bool torn :: _) _ _) =>
      if torn then some (.tuple [.str [], .int .i64 14], H)
      else if row < 0 ∨ (pn : Int) ≤ row then some (.tuple [.str [], .int .i64 1], H)
      else match H.get pb with
        | some (.cells us _ _) => match us[po + row.toNat]? with
          | some v => some (.tuple [v, .int .i64 0], H)
          | none => none
        | _ => none
    | _ => none
  | _, _ => none

end Go.Sx

/-
  SX, part 24: functions of the library that are answered by a Lean function: that they answer so, from the library's contracts.
-/
namespace Go.Sx
open Go.RowKit Go.Sort

section
variable {β : Emb} {H : AHeap} {w w' : World} {v : AVal} {v' : Value}

/-- A call behind which all older blocks are as they were. -/
theorem ends_below (hR : Rel β H w.heap) (hb : Below w.heap.size w w') (hv : VR β v v') : Ends β H w v H (.returned v') w' := by
  refine ⟨β, v', rfl, hv, hR.same hb.size fun b o x _ hβ => hb.block _ (hR.dom b x hβ).2, ?_⟩
  exact ⟨β.le_refl, fun _ _ h => .inl h, fun b o h _ => ⟨o, h⟩, hb.size, fun c hc _ => hb.block c hc, hb.tape, hb.os, hb.output, Nat.le_refl _⟩

theorem ends_same (hR : Rel β H w.heap) (hv : VR β v v') : Ends β H w v H (.returned v') w := ends_below hR (Below.refl _ _) hv

theorem below_drewN (n : Nat) : Below w.heap.size w (w.drewN n) := ⟨rfl, rfl, rfl, Nat.le_refl _, fun _ _ => rfl⟩

theorem below_grow (n : Nat) (os : Array Obj) : Below w.heap.size w (grow (w.drewN n) os) := by
  refine ⟨rfl, rfl, rfl, ?_, fun k hk => ?_⟩
  · show w.heap.size ≤ (w.heap ++ os).size
    simp
  · show (w.heap ++ os)[k]? = w.heap[k]?
    exact Array.getElem?_append_left hk

/-- A call that makes one block, and nothing else. -/
theorem ends_alloc (hR : Rel β H w.heap) {o : AObj} {oc : Obj} {n : Nat} (ho : ∀ β', β.le β' → ∀ hp : Array Obj, hp[w.heap.size]? = some oc → ObjR β' o (w.heap.size, 0, n) hp)
    (hv : VR (β.upd H.next (w.heap.size, 0, n)) v v') : Ends β H w v ((H.bump 1).set H.next o) (.returned v') (w.alloc oc) := by
  obtain ⟨h1, h2, h3⟩ := hR.new (w' := w.alloc oc) (o := o) (n := n) rfl ho rfl rfl rfl
  exact ⟨_, v', rfl, hv, h1, h2⟩

end

theorem VRs.one {β : Emb} {a : AVal} {vs : Array Value} (h : VRs β [a] vs.toList) : ∃ v, vs = #[v] ∧ VR β a v := by
  obtain ⟨l⟩ := vs
  simp only at h
  cases h with
  | cons _ v _ l h1 h2 => cases h2; exact ⟨v, rfl, h1⟩

theorem VRs.two {β : Emb} {a b : AVal} {vs : Array Value} (h : VRs β [a, b] vs.toList) : ∃ v u, vs = #[v, u] ∧ VR β a v ∧ VR β b u := by
  obtain ⟨l⟩ := vs
  simp only at h
  cases h with
  | cons _ v _ l h1 h2 => cases h2 with
    | cons _ u _ l h3 h4 => cases h4; exact ⟨v, u, rfl, h1, h3⟩

/-- A text of the model out of a list of bytes. -/
theorem VR.ofBytes {β : Emb} (l : List UInt8) : VR β (.str l) (.string ⟨l.toArray⟩) := by
  have := VR.str (β := β) ⟨l.toArray⟩
  simpa using this

section
variable {P : Program} {B : Base} {f : FuncId}

theorem prim_clone (he : ∀ (vs : Array Value) (w : World), (callFunc f vs).run P w = .ok (.enter f vs) w)
    (hc : ∀ (s : ByteArray) (w : World), Calls P f #[.string s] w fun e w' => e = .returned (.string s) ∧ Below w.heap.size w w') : PrimOk P B f pClone := by
  refine ⟨he, fun args H v H' h β w vs hB hR hv => ?_⟩
  unfold pClone at h
  split at h
  · cases h
    obtain ⟨u, rfl, hu⟩ := hv.one
    obtain ⟨s, rfl, hs⟩ := hu.str_inv
    refine (hc s w).mono ?_
    rintro e w' ⟨rfl, hb⟩
    exact ends_below hR hb (hs ▸ VR.str s)
  · cases h

/-! ### Cutting at one byte -/

theorem splitC_none {c : UInt8} : ∀ {l : List UInt8}, c ∉ l → splitC c l = [l]
  | [], _ => rfl
  | x :: l, h => by
    simp only [List.mem_cons, not_or] at h
    unfold splitC
    rw [if_neg (fun e => h.1 e.symm), splitC_none h.2]

theorem splitC_at {c : UInt8} : ∀ {a b : List UInt8}, c ∉ a → splitC c (a ++ c :: b) = a :: splitC c b
  | [], b, _ => by simp [splitC]
  | x :: a, b, h => by
    simp only [List.mem_cons, not_or] at h
    rw [List.cons_append, splitC, if_neg (fun e => h.1 e.symm), splitC_at h.2]

theorem splitC_length (c : UInt8) : ∀ l : List UInt8, (splitC c l).length = l.count c + 1
  | [] => rfl
  | x :: l => by
    unfold splitC
    split
    · rename_i e
      subst e
      simp [splitC_length x l]
    · rename_i e
      have := splitC_length c l
      split
      · rename_i p ps hp
        rw [hp] at this
        simp only [List.length_cons] at this ⊢
        rw [List.count_cons_of_ne e]
        exact this
      · rename_i hp
        rw [hp] at this
        simp at this

theorem index_parts {c : UInt8} {l : List UInt8} : Lib.index l [c] = -1 ∧ c ∉ l ∨ ∃ a b, l = a ++ c :: b ∧ c ∉ a ∧ Lib.index l [c] = a.length := by
  induction l with
  | nil => exact .inl ⟨rfl, by simp⟩
  | cons x l ih =>
    by_cases e : x = c
    · subst e
      refine .inr ⟨[], l, rfl, by simp, ?_⟩
      unfold Lib.index
      simp [List.isPrefixOf]
    · have hp : ([c] : List UInt8).isPrefixOf (x :: l) = false := by
        simp [List.isPrefixOf]
        exact fun h => e h.symm
      rcases ih with ⟨h1, h2⟩ | ⟨a, b, h1, h2, h3⟩
      · refine .inl ⟨?_, ?_⟩
        · unfold Lib.index
          rw [hp, h1]
          rfl
        · simp only [List.mem_cons, not_or]
          exact ⟨fun h => e h.symm, h2⟩
      · refine .inr ⟨x :: a, b, by rw [h1]; rfl, ?_, ?_⟩
        · simp only [List.mem_cons, not_or]
          exact ⟨fun h => e h.symm, h2⟩
        · unfold Lib.index
          rw [hp, h3]
          have : ((a.length : Int) == -1) = false := by rw [beq_eq_false_iff_ne]; omega
          rw [this]
          simp

theorem splitK_eq {c : UInt8} : ∀ (k : Nat) (l : List UInt8), l.count c ≤ k → Lib.splitK [c] 0 k l = splitC c l
  | 0, l, h => by
    have : c ∉ l := fun hm => by
      have := List.count_pos_iff.2 hm
      omega
    rw [splitC_none this]
    rfl
  | k + 1, l, h => by
    unfold Lib.splitK
    rcases index_parts (c := c) (l := l) with ⟨h1, h2⟩ | ⟨a, b, h1, h2, h3⟩
    · rw [h1, splitC_none h2]
      rfl
    · have hne : ((a.length : Int) == -1) = false := by rw [beq_eq_false_iff_ne]; omega
      rw [h3, hne, h1, splitC_at h2]
      have hcnt : b.count c ≤ k := by
        rw [h1, List.count_append, List.count_cons_self] at h
        omega
      have ht : (a ++ c :: b).take (((a.length : Int)).toNat + 0) = a := by simp
      have hd : (a ++ c :: b).drop (((a.length : Int)).toNat + [c].length) = b := by simp
      simp only [Bool.false_eq_true, if_false]
      rw [ht, hd, splitK_eq k b hcnt]

theorem cutC_eq (c : UInt8) : ∀ l : List UInt8, Lib.cut l [c] = match cutC c l with
    | some (a, b) => (a, b, true)
    | none => (l, [], false) := by
  have key : ∀ l : List UInt8, (c ∉ l → cutC c l = none) ∧ ∀ a b, l = a ++ c :: b → c ∉ a → cutC c l = some (a, b) := by
    intro l
    induction l with
    | nil => exact ⟨fun _ => rfl, fun a b h => by cases a <;> simp at h⟩
    | cons x l ih =>
      refine ⟨fun h => ?_, fun a b h1 h2 => ?_⟩
      · simp only [List.mem_cons, not_or] at h
        unfold cutC
        rw [if_neg (fun e => h.1 e.symm), ih.1 h.2]
      · cases a with
        | nil =>
          simp only [List.nil_append, List.cons.injEq] at h1
          obtain ⟨rfl, rfl⟩ := h1
          unfold cutC
          rw [if_pos rfl]
        | cons y a =>
          simp only [List.cons_append, List.cons.injEq] at h1
          obtain ⟨rfl, h1⟩ := h1
          simp only [List.mem_cons, not_or] at h2
          unfold cutC
          rw [if_neg (fun e => h2.1 e.symm), ih.2 a b h1 h2.2]
  intro l
  unfold Lib.cut
  rcases index_parts (c := c) (l := l) with ⟨h1, h2⟩ | ⟨a, b, h1, h2, h3⟩
  · rw [h1, (key l).1 h2]
    rfl
  · rw [h3, (key l).2 a b h1 h2, if_pos (by omega)]
    simp [h1]

/-! ### The primitives, from the contracts -/

def pSplitAt : List AVal → AHeap → Option (AVal × AHeap)
  | [.str s, .str [c]], H => if s.length < 4294967281 then
      some (.slice H.next 0 (s.count c + 1) (s.count c + 1) 1 true, (H.bump 1).set H.next (.cells ((splitC c s).map .str) false none)) else none
  | _, _ => none

def pCutAt : List AVal → AHeap → Option (AVal × AHeap)
  | [.str s, .str [c]], H => if s.length < 4294967281 then match cutC c s with
    | some (a, b) => some (.tuple [.str a, .str b, .bool true], H)
    | none => some (.tuple [.str s, .str [], .bool false], H) else none
  | _, _ => none

theorem bytes_one {sep : ByteArray} {c : UInt8} (h : sep.data.toList = [c]) : sep = ⟨#[c]⟩ := by
  obtain ⟨⟨l⟩⟩ := sep
  simp only at h
  subst h
  rfl

theorem strs_objR {β : Emb} {w : World} {ls : List ByteArray} {T : TypeId} : ∀ β', β.le β' → ∀ hp : Array Obj, hp[w.heap.size]? = some (.cells (ls.map Value.string).toArray T) →
    ObjR β' (.cells (ls.map fun s => .str s.data.toList) false none) (w.heap.size, 0, ls.length) hp := by
  intro β' _ hp h
  refine ⟨_, _, _, h, by simp, by simp, ?_, fun _ i hi hc => ?_, fun _ _ e => by cases e⟩
  · intro i a ha
    rw [List.getElem?_map] at ha
    cases hs : ls[i]? with
    | none => rw [hs] at ha; cases ha
    | some s =>
      rw [hs] at ha
      cases ha
      exact ⟨rfl, .string s, by simp [hs], .str s⟩
  · simp at hc

theorem prim_split {g : Nat} (hm : ∀ (β : Emb) (H : AHeap) (w : World), B.At β H w → ∃ m, w.cell? ⟨g, 0, none⟩ = some (.int .i64 m)) (T : TypeId) (he : ∀ (vs : Array Value) (w : World), (callFunc f vs).run P w = .ok (.enter f vs) w)
    (hc : ∀ (s sep : ByteArray) (m : Int) (w : World), s.size < 4294967281 → w.cell? ⟨g, 0, none⟩ = some (.int .i64 m) → 1 ≤ sep.size →
      Calls P f #[.string s, .string sep] w fun e w' => e = .returned (.slice (some ⟨w.heap.size, 0, none⟩) (Lib.countB s sep + 1) (Lib.countB s sep + 1)) ∧ w' = w.alloc (.cells ((Lib.splitB sep 0 (Lib.countB s sep) s).map Value.string).toArray T)) :
    PrimOk P B f pSplitAt := by
  refine ⟨he, fun args H v H' h β w vs hB hR hv => ?_⟩
  unfold pSplitAt at h
  split at h
  · rename_i s' c
    split at h
    · rename_i hg
      cases h
      obtain ⟨u, x, rfl, hu, hx⟩ := hv.two
      obtain ⟨s, rfl, hs⟩ := hu.str_inv
      obtain ⟨sep, rfl, hsep⟩ := hx.str_inv
      have := bytes_one hsep
      subst this
      obtain ⟨m, hmm⟩ := hm _ _ _ hB
      have hsz : s.size = s'.length := by
        rw [← hs]
        exact Array.length_toList.symm
      have hcnt : Lib.countB s ⟨#[c]⟩ = s'.count c := by
        rw [← hs, ← Lib.count_one]
      refine (hc s ⟨#[c]⟩ m w (by omega) hmm (by simp [ByteArray.size])).mono ?_
      rintro e w' ⟨rfl, rfl⟩
      have hlist : (Lib.splitB ⟨#[c]⟩ 0 (Lib.countB s ⟨#[c]⟩) s).map (fun s => AVal.str s.data.toList) = (splitC c s').map .str := by
        rw [← splitK_eq (Lib.countB s ⟨#[c]⟩) s' (by omega), ← hs]
        have := Lib.splitB_data ⟨#[c]⟩ 0 (Lib.countB s ⟨#[c]⟩) s
        rw [← this, List.map_map]
        rfl
      have hlen : (Lib.splitB ⟨#[c]⟩ 0 (Lib.countB s ⟨#[c]⟩) s).length = s'.count c + 1 := by
        have := congrArg List.length hlist
        simpa [splitC_length] using this
      rw [← hlist]
      refine ends_alloc hR strs_objR ?_
      rw [hcnt] at hlen ⊢
      exact .slice H.next 0 _ _ 1 true w.heap.size 0 _ 0 _ (Emb.upd_same _ _ _) (.inl rfl) (Nat.le_refl _) (fun _ => rfl) (by rw [hlen]; omega) (Nat.le_refl _)
    · cases h
  · cases h

theorem prim_cut {g : Nat} (hm : ∀ (β : Emb) (H : AHeap) (w : World), B.At β H w → ∃ m, w.cell? ⟨g, 0, none⟩ = some (.int .i64 m)) (he : ∀ (vs : Array Value) (w : World), (callFunc f vs).run P w = .ok (.enter f vs) w)
    (hc : ∀ (s sep : ByteArray) (m : Int) (w : World), s.size < 4294967281 → w.cell? ⟨g, 0, none⟩ = some (.int .i64 m) →
      Calls P f #[.string s, .string sep] w fun e w' => e = .returned (.tuple #[.string ⟨(Lib.cut s.data.toList sep.data.toList).1.toArray⟩, .string ⟨(Lib.cut s.data.toList sep.data.toList).2.1.toArray⟩, .bool (Lib.cut s.data.toList sep.data.toList).2.2]) ∧ ∃ n, w' = w.drewN n) :
    PrimOk P B f pCutAt := by
  refine ⟨he, fun args H v H' h β w vs hB hR hv => ?_⟩
  unfold pCutAt at h
  split at h
  · rename_i s' c
    split at h
    · rename_i hg
      obtain ⟨u, x, rfl, hu, hx⟩ := hv.two
      obtain ⟨s, rfl, hs⟩ := hu.str_inv
      obtain ⟨sep, rfl, hsep⟩ := hx.str_inv
      obtain ⟨m, hmm⟩ := hm _ _ _ hB
      have hsz : s.size = s'.length := by
        rw [← hs]
        exact Array.length_toList.symm
      refine (hc s sep m w (by omega) hmm).mono ?_
      rintro e w' ⟨rfl, k, rfl⟩
      rw [hs, hsep, cutC_eq]
      split at h
      · rename_i a b hcut
        cases h
        exact ends_below hR (below_drewN k) (.tuple _ _ (.cons _ _ _ _ (VR.ofBytes a) (.cons _ _ _ _ (VR.ofBytes b) (.cons _ _ _ _ (.bool true) .nil))))
      · rename_i hcut
        cases h
        exact ends_below hR (below_drewN k) (.tuple _ _ (.cons _ _ _ _ (VR.ofBytes _) (.cons _ _ _ _ (VR.ofBytes []) (.cons _ _ _ _ (.bool false) .nil))))
    · cases h
  · cases h

end
end Go.Sx

/-
  SX, part 25: more functions of the library: Builder's copyCheck and String, maps.Clone, Itoa.
-/
namespace Go.Sx
open Go.RowKit Go.Sort

/-- The bytes of cells, each in a byte's range. -/
def bytesIn : List AVal → Option (List UInt8)
  | [] => some []
  | .int .u8 n :: l => if 0 ≤ n ∧ n < 256 then match bytesIn l with
    | some r => some (UInt8.ofNat n.toNat :: r)
    | none => none else none
  | _ :: _ => none

theorem bytesIn_spec : ∀ {vs : List AVal} {l : List UInt8}, bytesIn vs = some l → l.length = vs.length ∧ ∀ (j : Nat) x, l[j]? = some x → vs[j]? = some (.int .u8 x.toNat)
  | [], l, h => by cases h; exact ⟨rfl, fun j x hx => by simp at hx⟩
  | v :: vs, l, h => by
    unfold bytesIn at h
    split at h
    · rename_i heq; cases heq
    · rename_i n l0 heq
      cases heq
      split at h
      · rename_i hr
        split at h
        · rename_i r hrr
          cases h
          obtain ⟨h1, h2⟩ := bytesIn_spec hrr
          refine ⟨by simp [h1], fun j x hx => ?_⟩
          cases j with
          | zero =>
            simp at hx
            subst hx
            have : (UInt8.ofNat n.toNat).toNat = n.toNat := by
              rw [UInt8.toNat_ofNat']
              omega
            simp only [List.getElem?_cons_zero, this]
            congr 2
            omega
          | succ j => simpa using h2 j x (by simpa using hx)
        · cases h
      · cases h
    · cases h

def pCopyCheckAt (T : TypeId) : List AVal → AHeap → Option (AVal × AHeap)
  | [.ptr b 0], H => match H.get b with
    | some (.cells [.nilptr, v] false (some (t, true))) => if t = T then some (.tuple [], H.set b (.cells [.ptr b 0, v] false (some (t, true)))) else none
    | some (.cells [.ptr b' 0, _] _ (some (t, true))) => if t = T ∧ b' = b then some (.tuple [], H) else none
    | _ => none
  | _, _ => none

def pStringAt (T e : TypeId) : List AVal → AHeap → Option (AVal × AHeap)
  | [.ptr b 0], H => match H.get b with
    | some (.cells [_, .nilslice] _ (some (t, true))) => if t = T then some (.str [], H) else none
    | some (.cells [_, .slice r 0 n _ 1 _] _ (some (t, true))) => if t = T then match H.get r with
      | some (.cells us _ (some (u, x))) => if u = e ∧ n ≠ 0 ∧ n ≤ 2 ^ 40 then match readCells us 0 n with
        | some cs => match bytesIn cs with
          | some l => some (.str l, H.set r (.cells us true (some (u, x))))
          | none => none
        | none => none else none
      | _ => none else none
    | _ => none
  | _, _ => none

section
variable {P : Program} {B : Base} {f : FuncId}

theorem cell_heap {w : World} {c : Nat} {cs : Array Value} {T : TypeId} {fz : Nat × Nat} (h : w.heap[c]? = some (.cells cs T fz)) (o : Nat) : w.cell? ⟨c, o, none⟩ = cs[o]? := cell_of h o

theorem freeze_heap {w : World} {c : Nat} {cs : Array Value} {e : TypeId} {fz : Nat × Nat} (h : w.heap[c]? = some (.cells cs e fz)) (o n : Nat) :
    ∃ fz', w.freeze ⟨c, o, none⟩ n = { w with heap := w.heap.setIfInBounds c (.cells cs e fz') } := by
  have hc : c < w.heap.size := (Array.getElem?_eq_some_iff.1 h).1
  have hv : w.heap[c] = .cells cs e fz := (Array.getElem?_eq_some_iff.1 h).2
  have same : ∀ fz' : Nat × Nat, fz' = fz → w.heap.setIfInBounds c (.cells cs e fz') = w.heap := by
    intro fz' hfz
    subst hfz
    apply Array.ext_getElem?
    intro i
    rw [Array.getElem?_setIfInBounds]
    by_cases e1 : c = i
    · subst e1; simp [hc, hv]
    · simp [e1]
  unfold World.freeze
  split
  · exact ⟨fz, by rw [same fz rfl]⟩
  · refine ⟨if fz.1 == fz.2 then (o, o + n) else (min fz.1 o, max fz.2 (o + n)), ?_⟩
    congr 1
    apply Array.ext_getElem?
    intro i
    rw [Array.getElem?_modify, Array.getElem?_setIfInBounds]
    by_cases e1 : c = i
    · subst e1; simp [hc, hv]
    · simp [e1]

theorem prim_copyCheck (T : TypeId) (he : ∀ (vs : Array Value) (w : World), (callFunc f vs).run P w = .ok (.enter f vs) w)
    (hu : ∀ (b : Nat) (w : World), w.cell? ⟨b, 0, none⟩ = some (.pointer (some ⟨b, 0, none⟩)) → Calls P f #[.pointer (some ⟨b, 0, none⟩)] w fun e w' => e = .returned (.tuple #[]) ∧ w' = w)
    (hf : ∀ (b : Nat) (w : World), w.cell? ⟨b, 0, none⟩ = some (.pointer none) → w.shape? b = some (T, 2) → w.frozen? ⟨b, 0, none⟩ = false →
      Calls P f #[.pointer (some ⟨b, 0, none⟩)] w fun e w' => e = .returned (.tuple #[]) ∧ w' = w.setCell ⟨b, 0, none⟩ (.pointer (some ⟨b, 0, none⟩))) : PrimOk P B f (pCopyCheckAt T) := by
  refine ⟨he, fun args H v H' h β w vs hB hR hv => ?_⟩
  unfold pCopyCheckAt at h
  split at h
  · rename_i b
    obtain ⟨u, rfl, hu'⟩ := hv.one
    obtain ⟨c, base, n, rfl, hβ⟩ := hu'.ptr_inv
    split at h
    · rename_i v1 t hg
      split at h
      · rename_i ht
        cases h
        subst ht
        obtain ⟨cs, T', fz, h1, h2, h3, h4, h5, h6⟩ := hR.obj b _ _ hg hβ
        obtain ⟨rfl, h7, h8⟩ := h6 _ _ rfl
        simp only at h1 h2 h3 h4 h5 h7 h8
        subst h7
        have hn2 : n = 2 := h8 trivial
        subst hn2
        obtain ⟨_, y, hy, hyr⟩ := h4 0 _ rfl
        cases hyr
        simp only [Nat.zero_add] at hy
        simp only [Nat.add_zero]
        have hc0 : w.cell? ⟨c, 0, none⟩ = some (.pointer none) := by rw [cell_of h1]; exact hy
        refine (hf c w hc0 (by simp [World.shape?, h1, h2]) ?_).mono ?_
        · have := h5 trivial 0 (by omega)
          simp only [World.frozen?, h1]
          simpa using this
        · rintro e w' ⟨rfl, rfl⟩
          have hheap := setCell_heap (w := w) h1 0 (.pointer (some ⟨c, 0, none⟩))
          rw [hheap]
          have hO : ObjR β (.cells [.ptr b 0, v1] false (some (T', true))) (c, 0, 2) (w.heap.setIfInBounds c (.cells (cs.setIfInBounds 0 (.pointer (some ⟨c, 0, none⟩))) T' fz)) := by
            refine ⟨_, T', fz, set_same (blk_lt h1), by simp [h2], h3, ?_, fun _ => h5 trivial, fun t ex ht => by cases ht; exact ⟨rfl, rfl, fun _ => rfl⟩⟩
            intro i a ha
            cases i with
            | zero =>
              cases ha
              refine ⟨rfl, _, ?_, .ptr b 0 c 0 2 hβ⟩
              simp [h2]
            | succ i =>
              obtain ⟨g1, y, g2, g3⟩ := h4 (i + 1) a ha
              refine ⟨g1, y, ?_, g3⟩
              simp only at g2 ⊢
              rw [Array.getElem?_setIfInBounds_ne (by omega)]
              exact g2
          exact ⟨β, _, rfl, .tuple _ _ .nil, hR.change hβ hg hO, Ext.change hβ hg _ (oc := .cells (cs.setIfInBounds 0 (.pointer (some ⟨c, 0, none⟩))) T' fz) rfl rfl rfl rfl⟩
      · cases h
    · rename_i b' v1 ro t hg
      split at h
      · rename_i ht
        cases h
        obtain ⟨rfl, rfl⟩ := ht
        obtain ⟨cs, T', fz, h1, h2, h3, h4, h5, h6⟩ := hR.obj _ _ _ hg hβ
        obtain ⟨rfl, h7, h8⟩ := h6 _ _ rfl
        simp only at h1 h2 h3 h4 h5 h7 h8
        subst h7
        obtain ⟨_, y, hy, hyr⟩ := h4 0 _ rfl
        obtain ⟨c', base', n', rfl, hβ'⟩ := hyr.ptr_inv
        rw [hβ] at hβ'
        cases hβ'
        simp only [Nat.add_zero] at hy ⊢
        refine (hu c w (by rw [cell_of h1]; exact hy)).mono ?_
        rintro e w' ⟨rfl, rfl⟩
        exact ends_same hR (.tuple _ _ .nil)
      · cases h
    · cases h
  · cases h

theorem prim_string (T e : TypeId) (he : ∀ (vs : Array Value) (w : World), (callFunc f vs).run P w = .ok (.enter f vs) w)
    (hn : ∀ (b : Nat) (w : World), w.cell? ⟨b, 1, none⟩ = some (.slice none 0 0) → Calls P f #[.pointer (some ⟨b, 0, none⟩)] w fun e w' => e = .returned (.string ⟨#[]⟩) ∧ w' = w.drew)
    (hc : ∀ (b g cap cells : Nat) (l : List UInt8), l ≠ [] → ∀ w : World, w.cell? ⟨b, 1, none⟩ = some (.slice (some ⟨g, 0, none⟩) l.length cap) → cap ≠ 0 → w.shape? g = some (e, cells) → l.length ≤ cells → l.length ≤ 9223372036854775807 →
      (∀ j x, l[j]? = some x → w.cell? ((⟨g, 0, none⟩ : Addr).add j) = some (.int .u8 x.toNat)) →
      Calls P f #[.pointer (some ⟨b, 0, none⟩)] w fun e w' => e = .returned (.string ⟨l.toArray⟩) ∧ w' = w.drew.freeze ⟨g, 0, none⟩ l.length) : PrimOk P B f (pStringAt T e) := by
  refine ⟨he, fun args H v H' h β w vs hB hR hv => ?_⟩
  unfold pStringAt at h
  split at h
  · rename_i b
    obtain ⟨u, rfl, hu'⟩ := hv.one
    obtain ⟨c, base, n0, rfl, hβ⟩ := hu'.ptr_inv
    split at h
    · rename_i v0 ro t hg
      split at h
      · rename_i ht
        cases h
        subst ht
        obtain ⟨cs, T', fz, h1, h2, h3, h4, h5, h6⟩ := hR.obj b _ _ hg hβ
        obtain ⟨rfl, h7, h8⟩ := h6 _ _ rfl
        simp only at h1 h2 h3 h4 h5 h7 h8
        subst h7
        obtain ⟨_, y, hy, hyr⟩ := h4 1 _ rfl
        cases hyr
        simp only [Nat.add_zero] at hy ⊢
        refine (hn c w (by rw [cell_of h1]; simpa using hy)).mono ?_
        rintro e w' ⟨rfl, rfl⟩
        exact ends_below hR (below_drewN 1) (VR.ofBytes [])
      · cases h
    · rename_i v0 r n cap ex ro t hg
      split at h
      · rename_i ht
        split at h
        · rename_i us ro2 u2 x2 hgr
          split at h
          · rename_i hue
            split at h
            · rename_i cs0 hread
              split at h
              · rename_i l hl
                cases h
                obtain ⟨rfl, hn, hn40⟩ := hue
                subst ht
                obtain ⟨cs, T', fz, h1, h2, h3, h4, h5, h6⟩ := hR.obj b _ _ hg hβ
                obtain ⟨rfl, h7, h8⟩ := h6 _ _ rfl
                simp only at h1 h2 h3 h4 h5 h7 h8
                subst h7
                obtain ⟨_, y, hy, hyr⟩ := h4 1 _ rfl
                obtain ⟨c', base', n', o', cap', rfl, hβ', ho, hcap, hex, hnk, hle⟩ := hyr.slice_inv
                obtain ⟨ds, T2, fz2, k1, k2, k3, k4, k5, k6⟩ := hR.obj r _ _ hgr hβ'
                obtain ⟨rfl, k7, _⟩ := id k6 _ _ rfl
                simp only at k1 k2 k3 k4 k5 k7
                subst k7
                have ho' : o' = 0 := by
                  rcases ho with ho | ho
                  · omega
                  · omega
                subst ho'
                obtain ⟨hl1, hl2⟩ := bytesIn_spec hl
                obtain ⟨hr1, hr2⟩ := readCells_spec hread
                have hln : l.length = n := by omega
                have hl0 : l ≠ [] := by intro e; rw [e] at hln; simp at hln; omega
                have hcell : ∀ j x, l[j]? = some x → w.cell? ((⟨c', 0, none⟩ : Addr).add j) = some (.int .u8 x.toNat) := by
                  intro j x hx
                  have hj := hl2 j x hx
                  have hus : us[j]? = some (.int .u8 x.toNat) := by
                    rw [hr1] at hj
                    rw [List.getElem?_take] at hj
                    split at hj
                    · simpa using hj
                    · cases hj
                  obtain ⟨_, z, hz, hzr⟩ := k4 j _ hus
                  have := hzr.int_inv
                  subst this
                  have hadd : (⟨c', 0, none⟩ : Addr).add j = ⟨c', j, none⟩ := by
                    unfold Addr.add
                    split
                    · rename_i h0; simp [h0]
                    · simp
                  rw [hadd, cell_of k1]
                  simpa using hz
                simp only [Nat.add_zero] at hy ⊢
                refine (hc c c' cap' n' l hl0 w (by rw [cell_of h1, hln]; simpa using hy) (by omega) (by simp [World.shape?, k1, k2]) (by omega) (by omega) hcell).mono ?_
                rintro e w' ⟨rfl, rfl⟩
                obtain ⟨fz', hfz⟩ := freeze_heap (w := w.drew) (c := c') (cs := ds) (e := T2) (fz := fz2) k1 0 l.length
                rw [hfz]
                have hO : ObjR β (.cells us true (some (T2, x2))) (c', 0, n') (w.heap.setIfInBounds c' (.cells ds T2 fz')) := by
                  refine ⟨ds, T2, fz', set_same (blk_lt k1), k2, k3, k4, ⟨?_, k6⟩⟩
                  intro hh
                  cases hh
                exact ⟨β, _, rfl, VR.ofBytes l, hR.change hβ' hgr hO, Ext.change hβ' hgr _ (oc := .cells ds T2 fz') rfl rfl rfl rfl⟩
              · cases h
            · cases h
          · cases h
        · cases h
      · cases h
    · cases h
  · cases h

end
end Go.Sx

/-
  SX, part 26: more functions of the library: Clone of texts and maps, Itoa.
-/
namespace Go.Sx
open Go.RowKit Go.Sort

def pCloneAt : List AVal → AHeap → Option (AVal × AHeap)
  | [.str s], H => if s.length ≤ 2 ^ 40 then some (.str s, H) else none
  | _, _ => none

def pMapsClone2 : List AVal → AHeap → Option (AVal × AHeap)
  | [.map b], H => match H.get b with
    | some (.map es c) => some (.map H.next, (H.bump 1).set H.next (.map es c))
    | _ => none
  | [.nilmap], H => some (.nilmap, H)
  | _, _ => none

def pItoaAt : List AVal → AHeap → Option (AVal × AHeap)
  | [.int .i64 n], H => if -9223372036854775808 ≤ n ∧ n ≤ 9223372036854775807 then
      if 0 ≤ n ∧ n < 100 then some (.str (Lib.itoa n), H) else some (.str (Lib.itoa n), H)
    else none
  | _, _ => none

section
variable {P : Program} {B : Base} {f : FuncId}

theorem prim_cloneAt (he : ∀ (vs : Array Value) (w : World), (callFunc f vs).run P w = .ok (.enter f vs) w)
    (hc : ∀ (s : ByteArray) (w : World), s.size ≤ 281474976710656 → Calls P f #[.string s] w fun e w' => e = .returned (.string s) ∧ Below w.heap.size w w') : PrimOk P B f pCloneAt := by
  refine ⟨he, fun args H v H' h β w vs hB hR hv => ?_⟩
  unfold pCloneAt at h
  split at h
  · split at h
    · rename_i hl
      cases h
      obtain ⟨u, rfl, hu⟩ := hv.one
      obtain ⟨s, rfl, hs⟩ := hu.str_inv
      have hsz : s.size = s.data.toList.length := Array.length_toList.symm
      refine (hc s w (by rw [hsz, hs]; omega)).mono ?_
      rintro e w' ⟨rfl, hb⟩
      exact ends_below hR hb (hs ▸ VR.str s)
    · cases h
  · cases h

theorem prim_mapsClone (he : ∀ (vs : Array Value) (w : World), (callFunc f vs).run P w = .ok (.enter f vs) w)
    (hc : ∀ (b : Nat) (es : Array MapEntry) (clock : Nat) (w : World), w.heap[b]? = some (.map es clock) → Calls P f #[.map (some b)] w fun e w' => e = .returned (.map (some w.heap.size)) ∧ w' = w.alloc (.map es clock))
    (hn : ∀ w : World, Calls P f #[.map none] w fun e w' => e = .returned (.map none) ∧ w' = w) : PrimOk P B f pMapsClone2 := by
  refine ⟨he, fun args H v H' h β w vs hB hR hv => ?_⟩
  unfold pMapsClone2 at h
  split at h
  · rename_i b
    split at h
    · rename_i es c hg
      cases h
      obtain ⟨u, rfl, hu⟩ := hv.one
      obtain ⟨k, base, n, rfl, hβ⟩ := hu.map_inv
      obtain ⟨es', h1, h2⟩ := hR.obj b _ _ hg hβ
      refine (hc k es' c w h1).mono ?_
      rintro e w' ⟨rfl, rfl⟩
      refine ends_alloc (n := 0) hR (fun β' hle hp hh => ?_) (.map _ _ 0 0 (Emb.upd_same _ _ _))
      exact ⟨es', hh, h2.mono hle⟩
    · cases h
  · cases h
    obtain ⟨u, rfl, hu⟩ := hv.one
    cases hu
    refine (hn w).mono ?_
    rintro e w' ⟨rfl, rfl⟩
    exact ends_same hR .nilmap
  · cases h

theorem prim_itoa (he : ∀ (vs : Array Value) (w : World), (callFunc f vs).run P w = .ok (.enter f vs) w)
    (hg : ∀ (β : Emb) (H : AHeap) (w : World), B.At β H w → Lib.TabIs P w "internal/strconv.uint64pow10" .u64 Lib.pow10Tab)
    (hs : ∀ (i : Nat) (w : World), i < 100 → Calls P f #[.int .i64 i] w fun e w' => e = .returned (.string ⟨(Lib.decDigits i).toArray⟩) ∧ w' = w)
    (hc : ∀ (n : Int) (w : World), -9223372036854775808 ≤ n → n ≤ 9223372036854775807 → Lib.TabIs P w "internal/strconv.uint64pow10" .u64 Lib.pow10Tab →
      Calls P f #[.int .i64 n] w fun e w' => e = .returned (.string ⟨(Lib.itoa n).toArray⟩) ∧ ∃ k os, w' = grow (w.drewN k) os) : PrimOk P B f pItoaAt := by
  refine ⟨he, fun args H v H' h β w vs hB hR hv => ?_⟩
  unfold pItoaAt at h
  split at h
  · rename_i n
    split at h
    · rename_i hr
      obtain ⟨u, rfl, hu⟩ := hv.one
      have := hu.int_inv
      subst this
      split at h
      · rename_i hsm
        cases h
        obtain ⟨i, rfl⟩ : ∃ i : Nat, n = i := ⟨n.toNat, by omega⟩
        refine (hs i w (by omega)).mono ?_
        rintro e w' ⟨rfl, rfl⟩
        have : Lib.itoa (i : Int) = Lib.decDigits i := by
          unfold Lib.itoa
          rw [if_neg (by omega)]
          rfl
        rw [this]
        exact ends_same hR (VR.ofBytes _)
      · cases h
        refine (hc n w hr.1 hr.2 (hg _ _ _ hB)).mono ?_
        rintro e w' ⟨rfl, k, os, rfl⟩
        exact ends_below hR (below_grow k os) (VR.ofBytes _)
    · cases h
  · cases h

end
end Go.Sx

/-
  SX, part 27: more functions of the library: Join.
-/
namespace Go.Sx
open Go.RowKit Go.Sort

theorem joinL_eq (sep : List UInt8) : ∀ xs : List (List UInt8), joinL sep xs = Lib.join xs sep
  | [] => rfl
  | [x] => (Lib.join_one x sep).symm
  | x :: y :: l => by
    rw [Lib.join_cons, joinL, joinL_eq sep (y :: l), Lib.join_cons]
    simp [Lib.joinTail]

theorem strsOf_spec {β : Emb} : ∀ {vs : List AVal} {ss : List (List UInt8)} {us : List Value}, strsOf vs = some ss → VRs β vs us → ∃ xs : List ByteArray, us = xs.map Value.string ∧ xs.map (·.data.toList) = ss
  | [], ss, us, h, hv => by cases h; cases hv; exact ⟨[], rfl, rfl⟩
  | v :: vs, ss, us, h, hv => by
    unfold strsOf at h
    split at h
    · rename_i heq; cases heq
    · rename_i s l heq
      cases heq
      split at h
      · rename_i r hr
        cases h
        cases hv with
        | cons _ u _ us h1 h2 =>
          obtain ⟨b, rfl, hb⟩ := h1.str_inv
          obtain ⟨xs, rfl, hxs⟩ := strsOf_spec hr h2
          exact ⟨b :: xs, rfl, by simp [hb, hxs]⟩
      · cases h
    · cases h

def pJoinAt : List AVal → AHeap → Option (AVal × AHeap)
  | [.slice b off len _ 1 _, .str sep], H => match H.get b with
    | some (.cells vs _ _) => match readCells vs off len with
      | some l => match strsOf l with
        | some ss => if (joinL sep ss).length ≤ 2 ^ 40 ∧ len ≤ 2 ^ 40 ∧ len ≠ 0 then some (.str (joinL sep ss), H) else none
        | none => none
      | none => none
    | _ => none
  | [.nilslice, .str _], H => some (.str [], H)
  | _, _ => none

section
variable {P : Program} {B : Base} {f : FuncId}

theorem prim_join (he : ∀ (vs : Array Value) (w : World), (callFunc f vs).run P w = .ok (.enter f vs) w)
    (hn : ∀ (a : Option Addr) (c : Nat) (sep : ByteArray) (w : World), Calls P f #[.slice a 0 c, .string sep] w fun e w' => e = .returned (.string ⟨#[]⟩) ∧ w' = w)
    (hc : ∀ (bk o c : Nat) (xs : List ByteArray) (sep : ByteArray) (w : World), (∀ (j : Nat) x, xs[j]? = some x → w.cell? ⟨bk, o + j, none⟩ = some (.string x)) → bk < w.heap.size → xs.length ≤ 140737488355328 → xs.length ≤ c →
      (Lib.join (xs.map (·.data.toList)) sep.data.toList).length ≤ 140737488355328 →
      Calls P f #[.slice (some ⟨bk, o, none⟩) xs.length c, .string sep] w fun e w' => e = .returned (.string ⟨(Lib.join (xs.map (·.data.toList)) sep.data.toList).toArray⟩) ∧ Below w.heap.size w w') : PrimOk P B f pJoinAt := by
  refine ⟨he, fun args H v H' h β w vs hB hR hv => ?_⟩
  unfold pJoinAt at h
  split at h
  · rename_i b off len cap ex sep'
    split at h
    · rename_i us ro ty hg
      split at h
      · rename_i l hread
        split at h
        · rename_i ss hss
          split at h
          · rename_i hlim
            cases h
            obtain ⟨u, x, rfl, hu, hx⟩ := hv.two
            obtain ⟨sep, rfl, hsep⟩ := hx.str_inv
            obtain ⟨c, base, n, o, cap', rfl, hβ, ho, hcap, hex, hnk, hle⟩ := hu.slice_inv
            obtain ⟨cs, T, fz, h1, h2, h3, h4, _⟩ := hR.obj b _ _ hg hβ
            simp only at h1 h2 h3 h4
            obtain ⟨hr1, hr2⟩ := readCells_spec hread
            have ho' : o = base + off := by
              rcases ho with ho | ho
              · exact ho
              · omega
            subst ho'
            have hrel : ∃ us' : List Value, VRs β l us' ∧ us'.length = len ∧ ∀ j y, us'[j]? = some y → cs[base + off + j]? = some y := by
              have hall : ∀ (j : Nat) (a : AVal), l[j]? = some a → ∃ y, cs[base + off + j]? = some y ∧ VR β a y := by
                intro j a ha
                have : us[off + j]? = some a := by
                  rw [hr1, List.getElem?_take] at ha
                  split at ha
                  · rw [List.getElem?_drop] at ha; exact ha
                  · cases ha
                obtain ⟨_, y, hy, hyr⟩ := h4 _ _ this
                exact ⟨y, by rw [Nat.add_assoc]; exact hy, hyr⟩
              refine ⟨(List.range len).map fun j => cs.getD (base + off + j) undef, VRs.of_get (by simp [hr2]) fun j a ha => ?_, by simp, fun j y hy => ?_⟩
              · obtain ⟨y, hy, hyr⟩ := hall j a ha
                have hj : j < len := by rw [← hr2]; exact (List.getElem?_eq_some_iff.1 ha).1
                refine ⟨y, ?_, hyr⟩
                rw [List.getElem?_map, List.getElem?_range hj, Option.map_some, Array.getD_eq_getD_getElem?, hy]
                rfl
              · have hj : j < len := by
                  have := (List.getElem?_eq_some_iff.1 hy).1
                  simpa using this
                obtain ⟨y', hy', _⟩ := hall j _ (List.getElem?_eq_getElem (by rw [hr2]; exact hj))
                rw [List.getElem?_map, List.getElem?_range hj, Option.map_some, Array.getD_eq_getD_getElem?, hy'] at hy
                rw [hy']
                exact hy
            obtain ⟨us', g1, g2, g3⟩ := hrel
            obtain ⟨xs, rfl, hxs⟩ := strsOf_spec hss g1
            have hxl : xs.length = len := by simpa using g2
            have hj : Lib.join (xs.map (·.data.toList)) sep.data.toList = joinL sep' ss := by rw [hxs, hsep, joinL_eq]
            subst hxl
            refine (hc c (base + off) cap' xs sep w (fun j x hx => ?_) (blk_lt h1) (by omega) (by omega) (by rw [hj]; omega)).mono ?_
            · rw [cell_of h1]
              exact g3 j _ (by rw [List.getElem?_map, hx]; rfl)
            · rintro e w' ⟨rfl, hb⟩
              rw [hj]
              exact ends_below hR hb (VR.ofBytes _)
          · cases h
        · cases h
      · cases h
    · cases h
  · cases h
    obtain ⟨u, x, rfl, hu, hx⟩ := hv.two
    obtain ⟨sep, rfl, hsep⟩ := hx.str_inv
    cases hu
    refine (hn none 0 sep w).mono ?_
    rintro e w' ⟨rfl, rfl⟩
    exact ends_same hR (VR.ofBytes [])
  · cases h

def pAtoiAt : List AVal → AHeap → Option (AVal × AHeap)
  | [.str s], H => if s.length ≤ 18 then match Lib.atoi s with
    | some n => some (.tuple [.int .i64 n, .nilIface], H)
    | none => none else none
  | _, _ => none

theorem below_bytes (w : World) (e : TypeId) (s : ByteArray) : Below w.heap.size w (Lib.bytesWorld w e s) := by
  refine ⟨rfl, rfl, rfl, ?_, fun k hk => Lib.bytesWorld_at_old w e s k hk⟩
  rw [Lib.bytesWorld_size]
  omega

theorem prim_atoi (T : TypeId) (he : ∀ (vs : Array Value) (w : World), (callFunc f vs).run P w = .ok (.enter f vs) w)
    (hc : ∀ (s : ByteArray) (n : Int), s.size ≤ 18 → Lib.atoi s.data.toList = some n → ∀ w : World, Calls P f #[.string s] w fun e w' => e = .returned (.tuple #[.int .i64 n, .nilIface]) ∧ ∃ t, w' = Lib.bytesWorld w T t) : PrimOk P B f pAtoiAt := by
  refine ⟨he, fun args H v H' h β w vs hB hR hv => ?_⟩
  unfold pAtoiAt at h
  split at h
  · split at h
    · rename_i hl
      split at h
      · rename_i n hn
        cases h
        obtain ⟨u, rfl, hu⟩ := hv.one
        obtain ⟨s, rfl, hs⟩ := hu.str_inv
        have hsz : s.size = s.data.toList.length := Array.length_toList.symm
        refine (hc s n (by rw [hsz, hs]; omega) (by rw [hs]; exact hn) w).mono ?_
        rintro e w' ⟨rfl, t, rfl⟩
        exact ends_below hR (below_bytes w T t) (.tuple _ _ (.cons _ _ _ _ (.int _ _) (.cons _ _ _ _ .nilIface .nil)))
      · cases h
    · cases h
  · cases h

end
end Go.Sx

/-
  SX, part 29: functions that are answered by a Lean function, of texts that are not written down too.
-/
namespace Go.Sx
open Go.RowKit

def pCloneAt2 : List AVal → AHeap → Option (AVal × AHeap)
  | [.str s], H => if s.length ≤ 2 ^ 40 then some (.str s, H) else none
  | [.sym s], H => if askBool s .short = some true then some (.sym s, H) else none
  | _, _ => none

def pNameAt : List AVal → AHeap → Option (AVal × AHeap)
  | [.str s], H => if s.length ≤ 2 ^ 40 then some (.bool (nameB s), H) else none
  | [.sym s], H => match askBool s (.pred 0), askBool s .short with
    | some b, some true => some (.bool b, H)
    | _, _ => none
  | _, _ => none

/-- What Read answers: of a cloth whose loose threads are none. -/
def pClothReadAt : List AVal → AHeap → Option (AVal × AHeap)
  | [.ptr b 0, .int .i64 row], H => match H.get b with
    | some (.cells (.slice pb po pn _ _ _ :: .nilslice :: .bool torn :: _) _ (some (_, true))) =>
      if torn then some (.tuple [.str [], .int .i64 14], H)
      else if row < 0 ∨ (pn : Int) ≤ row then some (.tuple [.str [], .int .i64 1], H)
      else match H.get pb with
        | some (.cells us _ _) => match us[po + row.toNat]? with
          | some (.str s) => some (.tuple [.str s, .int .i64 0], H)
          | _ => none
        | _ => none
    | _ => none
  | _, _ => none

section
variable {P : Program} {B : Base} {f : FuncId} {β : Emb}

theorem sym_short {s : Sym} {v : Value} (h : VR β (.sym s) v) (hq : askBool s .short = some true) : ∃ b : ByteArray, v = .string b ∧ s.val = .str b.data.toList ∧ b.size ≤ 1000 := by
  obtain ⟨hok, hv⟩ := h.sym_inv
  have := askBool_ok hok hq
  generalize hsv : s.val = sv at this hv
  cases sv with
  | int k n => cases this
  | str l =>
    obtain ⟨b, rfl, hb⟩ := hv.str_inv
    simp only [qEval, Option.some.injEq, AVal.bool.injEq, decide_eq_true_eq] at this
    subst hb
    exact ⟨b, rfl, rfl, by rw [← size_data]; exact this⟩

theorem prim_cloneAt2 (he : ∀ (vs : Array Value) (w : World), (callFunc f vs).run P w = .ok (.enter f vs) w)
    (hc : ∀ (s : ByteArray) (w : World), s.size ≤ 281474976710656 → Calls P f #[.string s] w fun e w' => e = .returned (.string s) ∧ Below w.heap.size w w') : PrimOk P B f pCloneAt2 := by
  refine ⟨he, fun args H v H' h β w vs hB hR hv => ?_⟩
  unfold pCloneAt2 at h
  split at h
  · split at h
    · rename_i hl
      cases h
      obtain ⟨u, rfl, hu⟩ := hv.one
      obtain ⟨s, rfl, hs⟩ := hu.str_inv
      have hsz : s.size = s.data.toList.length := Array.length_toList.symm
      refine (hc s w (by rw [hsz, hs]; omega)).mono ?_
      rintro e w' ⟨rfl, hb⟩
      exact ends_below hR hb (hs ▸ VR.str s)
    · cases h
  · split at h
    · rename_i hq
      cases h
      obtain ⟨u, rfl, hu⟩ := hv.one
      obtain ⟨b, rfl, _, hsz⟩ := sym_short hu hq
      refine (hc b w (by omega)).mono ?_
      rintro e w' ⟨rfl, hb⟩
      exact ends_below hR hb hu
    · cases h
  · cases h

theorem prim_nameAt (he : ∀ (vs : Array Value) (w : World), (callFunc f vs).run P w = .ok (.enter f vs) w)
    (hc : ∀ (s : ByteArray) (w : World), s.size ≤ 9223372036854775807 → Calls P f #[.string s] w fun e w' => e = .returned (.bool (nameB s.data.toList)) ∧ w' = w) : PrimOk P B f pNameAt := by
  refine ⟨he, fun args H v H' h β w vs hB hR hv => ?_⟩
  unfold pNameAt at h
  split at h
  · split at h
    · rename_i hl
      cases h
      obtain ⟨u, rfl, hu⟩ := hv.one
      obtain ⟨s, rfl, hs⟩ := hu.str_inv
      have hsz : s.size = s.data.toList.length := Array.length_toList.symm
      refine (hc s w (by rw [hsz, hs]; omega)).mono ?_
      rintro e w' ⟨rfl, rfl⟩
      rw [hs]
      exact ends_same hR (.bool _)
    · cases h
  · split at h
    · rename_i b hq1 hq2
      cases h
      obtain ⟨u, rfl, hu⟩ := hv.one
      obtain ⟨s, rfl, hs, hsz⟩ := sym_short hu hq2
      have h1 := askBool_ok hu.sym_inv.1 hq1
      rw [hs] at h1
      simp only [qEval, Option.some.injEq, AVal.bool.injEq] at h1
      refine (hc s w (by omega)).mono ?_
      rintro e w' ⟨rfl, rfl⟩
      rw [h1]
      exact ends_same hR (.bool _)
    · cases h
  · cases h

end
end Go.Sx
