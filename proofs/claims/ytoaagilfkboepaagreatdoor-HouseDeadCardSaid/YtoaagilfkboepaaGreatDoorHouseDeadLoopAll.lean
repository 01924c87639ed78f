/-
  SX: a walk that stands ahead of a part whose rest is hidden in a continuation; and what a loop by hand needs of the frame.
-/
import Derived.Test.YtoaagilfkboepaaGreatDoorHouseDeadDef
import Derived.Test.YtoaagilfkboepaaGreatDoorWalkLight
set_option linter.unusedSimpArgs false
set_option linter.unusedVariables false
namespace Go.Sx
section
variable {P : Program} {B : Base}
theorem pre_enter {cfg : Cfg} (hc : CfgOk P B cfg) {fuel d : Nat} {n : Nat} {c r : Code} {fr : AFrame} {H : AHeap} {fr' : AFrame} {H' : AHeap} {β : Emb} {a : Act} {w : World} {Q : Exit → Act → World → Prop} {K : Act → World → Prop}
    (h : aPre cfg (aCall cfg fuel d) fuel (n + 1) (.seq c r) fr H = some (fr', H')) (hok : okCode (.seq c r) = true) (hB : B.At β H w) (hF : FrR β fr a.tmps) (hR : Rel β H w.heap)
    (hK : ∀ a w, r.wp P Q a w → K a w)
    (hQ : ∀ β' a' w', a'.defers = a.defers → FrR β' fr' a'.tmps → Rel β' H' w'.heap → Ext H.next β β' H H' w w' → B.At β' H' w' → (tailOf n r).wp P Q a' w') : c.wp P (Exit.then K Q) a w := by
  simp only [okCode, Bool.and_eq_true] at hok
  unfold aPre at h
  split at h
  · rename_i f1 H1 h1
    refine code_sound hc.types (call_sound hc fuel d) hc.mixed fuel c hok.1 fr H .normal f1 H1 β a w _ h1 hB hF hR fun β1 a1 w1 d1 hF1 hR1 hE1 => ?_
    refine hK a1 w1 (pre_sound hc n r f1 H1 fr' H' β1 a1 w1 Q h hok.2 (hB.ext hE1 hR.dom) hF1 hR1 fun β2 a2 w2 d2 hF2 hR2 hE2 hB2 => ?_)
    exact hQ β2 a2 w2 (d2.trans d1) hF2 hR2 (hE1.trans hE2 hE1.next hR.dom) hB2
  · cases h
end
end Go.Sx
namespace Go.Proofs.YtoaagilfkboepaaGreatDoor
open Go Go.Sx Go.Proofs
def mergeV (z : Nat → Value) : Nat → List Value → List Value
  | _, [] => []
  | i, a :: l => (match loopSlot i with | true => z i | false => a) :: mergeV z (i + 1) l
theorem choose_R {β : Emb} {z : Nat → Value} (hz : ∀ i, loopSlot i = true → ∃ x, VR β x (z i)) : ∃ y : Nat → AVal, ∀ i, loopSlot i = true → VR β (y i) (z i) :=
  ⟨fun i => if h : loopSlot i = true then Classical.choose (hz i h) else default, fun i hi => by
    simp only [hi, dite_true]
    exact Classical.choose_spec (hz i hi)⟩
theorem merge_all {β : Emb} {z : Nat → Value} {y : Nat → AVal} (hy : ∀ i, loopSlot i = true → VR β (y i) (z i)) : ∀ (fr : AFrame) (ts : List Value), VRs β fr ts → ∀ i, VRs β (merge6 y i fr) (mergeV z i ts)
  | [], ts, h, i => by
    cases h
    exact .nil
  | a :: fr, ts, h, i => by
    cases h with
    | cons _ v _ vs h1 h2 =>
      unfold merge6 mergeV
      cases hl : loopSlot i with
      | true => exact .cons _ _ _ _ (hy i hl) (merge_all hy fr vs h2 _)
      | false => exact .cons _ _ _ _ h1 (merge_all hy fr vs h2 _)
theorem merge_R {β : Emb} {z : Nat → Value} (hz : ∀ i, loopSlot i = true → ∃ x, VR β x (z i)) : ∃ y : Nat → AVal, ∀ (fr : AFrame) (ts : List Value), VRs β fr ts → ∀ i, VRs β (merge6 y i fr) (mergeV z i ts) :=
  let ⟨y, hy⟩ := choose_R hz
  ⟨y, merge_all hy⟩
theorem list_explicit {α : Type} (l : List α) (d : α) (n : Nat) (h : l.length = n) : l = (List.range n).map fun i => l.getD i d := by
  subst h
  refine List.ext_getElem (by simp) fun i h1 h2 => ?_
  simp [h1]
end Go.Proofs.YtoaagilfkboepaaGreatDoor

/-
  HouseDead: the loop: a house that is off tells each line so.
-/
namespace Go.Proofs.YtoaagilfkboepaaGreatDoor
open Go Go.RowKit Go.Sx Go.Proofs Go.ChangeMaps
def HasIn (β : Emb) (v : Value) : Prop := ∃ x, VR β x v
theorem inUndef (β : Emb) : HasIn β undef := ⟨.tuple [], .tuple _ _ .nil⟩
theorem inInt (β : Emb) (k : IntKind) (n : Int) : HasIn β (.int k n) := ⟨_, .int k n⟩
theorem inBool (β : Emb) (b : Bool) : HasIn β (.bool b) := ⟨_, .bool b⟩
theorem inStr (β : Emb) (s : ByteArray) : HasIn β (.string s) := ⟨_, .str s⟩
theorem inTold (β : Emb) : HasIn β (.tuple #[.string ⟨#[]⟩, .int .i64 14]) := ⟨_, .tuple [.str (⟨#[]⟩ : ByteArray).data.toList, .int .i64 14] _ (.cons _ _ _ _ (.str ⟨#[]⟩) (.cons _ _ _ _ (.int _ _) .nil))⟩
theorem loopSlot_cases {i : Nat} (h : loopSlot i = true) : i = 4 ∨ i = 12 ∨ i = 13 ∨ i = 14 ∨ i = 73 ∨ i = 74 ∨ i = 75 ∨ i = 76 ∨ i = 77 ∨ i = 78 ∨ i = 79 ∨ i = 80 ∨ i = 81 ∨ i = 82 ∨ i = 83 ∨ i = 84 ∨ i = 85 ∨ i = 86 ∨ i = 87 ∨ i = 88 ∨ i = 89 ∨ i = 90 ∨ i = 91 ∨ i = 92 ∨ i = 93 := by
  simp only [loopSlot, Bool.or_eq_true, Bool.and_eq_true, Nat.beq_eq, Nat.ble_eq] at h
  omega
theorem use_tail {β : Emb} {c : Code} {P : Program} {Q : Exit → Act → World → Prop} {W : World} {base : List Value} (hT : ∀ z : Nat → Value, (∀ i, loopSlot i = true → HasIn β (z i)) → c.wp P Q ⟨(mergeV z 0 base).toArray, []⟩ W) {tm : Array Value}
    (h : tm = (mergeV (fun i => tm.getD i undef) 0 base).toArray) (hz : ∀ i, loopSlot i = true → HasIn β (tm.getD i undef)) : c.wp P Q ⟨tm, []⟩ W := by
  have := hT _ hz
  rw [← h] at this
  exact this
def tailO : Nat → Code → Option Code
  | 0, c => some c
  | n + 1, .seq _ c => tailO n c
  | _ + 1, c => some c
theorem wp_of_some {P : Program} {o : Option Code} {c : Code} {Q : Exit → Act → World → Prop} {a : Act} {w : World} (h : o = some c) (hw : c.wp P Q a w) : ∀ c', o = some c' → c'.wp P Q a w := by
  intro c' h'
  obtain rfl := Option.some.inj (h.symm.trans h')
  exact hw
set_option maxRecDepth 100000 in
set_option maxHeartbeats 2000000 in
theorem dead_loop (a : Addr) (len cap : Nat) (hlen : len ≤ cap) (hcap : cap ≤ 9223372036854775807) (ss : Nat → ByteArray) (hb ho : Nat) (pv : Addr) (W : World) (q0 : W.cell? ⟨hb, ho, none⟩ = some (.pointer (some pv))) (q3 : W.cell? ⟨hb, ho + 3, none⟩ = some (.bool true)) {β : Emb}
    (hp : HasIn β (.pointer (some ⟨hb, ho, none⟩))) (hcell : ∀ i, i < len → W.cell? (a.add i) = some (.string (ss i))) (hadd : ∀ k, k < len → HasIn β (.pointer (some (a.add k)))) (hl : HasIn β (Value.slice (some a) len cap)) (t : Nat → Value) (ht : ∀ i, loopSlot i = true → HasIn β (t i)) (R : Ending → World → Prop)
    (hT : ∀ z : Nat → Value, (∀ i, loopSlot i = true → HasIn β (z i)) → tail6.wp Tryz.prog (bodyPost Tryz.prog Tryz.f6 R) ⟨(mergeV z 0 [Value.slice (some a) len cap, t 1, t 2, t 3, t 4, t 5, (Value.pointer (some ⟨hb, ho, none⟩)), t 7, t 8, t 9, t 10, t 11, t 12, t 13, t 14, t 15, t 16, t 17, t 18, t 19, t 20, t 21, t 22, t 23, t 24, t 25, t 26, t 27, t 28, t 29, t 30, t 31, t 32, t 33, t 34, t 35, t 36, t 37, t 38, t 39, t 40, t 41, t 42, t 43, t 44, t 45, t 46, t 47, t 48, t 49, t 50, t 51, t 52, t 53, t 54, t 55, t 56, t 57, t 58, t 59, t 60, t 61, t 62, t 63, t 64, t 65, t 66, t 67, t 68, t 69, t 70, t 71, t 72, t 73, t 74, t 75, t 76, t 77, t 78, t 79, t 80, t 81, t 82, t 83, t 84, t 85, t 86, t 87, t 88, t 89, t 90, t 91, t 92, t 93, t 94, t 95, t 96, t 97, t 98, t 99, t 100, t 101, t 102, t 103, t 104, t 105, t 106, t 107, t 108, t 109, t 110, t 111, t 112, t 113, t 114, t 115, t 116, t 117, t 118, t 119, t 120, t 121, t 122, t 123, t 124, t 125, t 126, t 127, t 128, t 129]).toArray, []⟩ W) :
    ∀ c, tailO 9 (Tryz.f6.body.getD .skip) = some c → c.wp Tryz.prog (bodyPost Tryz.prog Tryz.f6 R) ⟨#[Value.slice (some a) len cap, t 1, t 2, t 3, t 4, t 5, (Value.pointer (some ⟨hb, ho, none⟩)), t 7, t 8, t 9, t 10, t 11, t 12, t 13, t 14, t 15, t 16, t 17, t 18, t 19, t 20, t 21, t 22, t 23, t 24, t 25, t 26, t 27, t 28, t 29, t 30, t 31, t 32, t 33, t 34, t 35, t 36, t 37, t 38, t 39, t 40, t 41, t 42, t 43, t 44, t 45, t 46, t 47, t 48, t 49, t 50, t 51, t 52, t 53, t 54, t 55, t 56, t 57, t 58, t 59, t 60, t 61, t 62, t 63, t 64, t 65, t 66, t 67, t 68, t 69, t 70, t 71, t 72, t 73, t 74, t 75, t 76, t 77, t 78, t 79, t 80, t 81, t 82, t 83, t 84, t 85, t 86, t 87, t 88, t 89, t 90, t 91, t 92, t 93, t 94, t 95, t 96, t 97, t 98, t 99, t 100, t 101, t 102, t 103, t 104, t 105, t 106, t 107, t 108, t 109, t 110, t 111, t 112, t 113, t 114, t 115, t 116, t 117, t 118, t 119, t 120, t 121, t 122, t 123, t 124, t 125, t 126, t 127, t 128, t 129], []⟩ W := by
  refine wp_of_some rfl ?_
  go_wp2
  rename_i K hK
  have hN := Nonempty.intro hK
  clear hK
  go_loop [4, 12, 13, 14, 73, 74, 75, 76, 77, 78, 79, 80, 81, 82, 83, 84, 85, 86, 87, 88, 89, 90, 91, 92, 93] (fun a4 a12 a13 a14 a73 a74 a75 a76 a77 a78 a79 a80 a81 a82 a83 a84 a85 a86 a87 a88 a89 a90 a91 a92 a93 => (∃ k : Nat, k ≤ len ∧ a12 = .int .i64 k) ∧ HasIn β a4 ∧ HasIn β a12 ∧ HasIn β a13 ∧ HasIn β a14 ∧ HasIn β a73 ∧ HasIn β a74 ∧ HasIn β a75 ∧ HasIn β a76 ∧ HasIn β a77 ∧ HasIn β a78 ∧ HasIn β a79 ∧ HasIn β a80 ∧ HasIn β a81 ∧ HasIn β a82 ∧ HasIn β a83 ∧ HasIn β a84 ∧ HasIn β a85 ∧ HasIn β a86 ∧ HasIn β a87 ∧ HasIn β a88 ∧ HasIn β a89 ∧ HasIn β a90 ∧ HasIn β a91 ∧ HasIn β a92 ∧ HasIn β a93) (fun a4 a12 a13 a14 a73 a74 a75 a76 a77 a78 a79 a80 a81 a82 a83 a84 a85 a86 a87 a88 a89 a90 a91 a92 a93 => len - (intOf a12).toNat)
  case atStart => exact ⟨⟨0, Nat.zero_le _, rfl⟩, ht 4 rfl, inInt _ _ _, ht 13 rfl, ht 14 rfl, ht 73 rfl, ht 74 rfl, ht 75 rfl, ht 76 rfl, ht 77 rfl, ht 78 rfl, ht 79 rfl, ht 80 rfl, ht 81 rfl, ht 82 rfl, ht 83 rfl, ht 84 rfl, ht 85 rfl, ht 86 rfl, ht 87 rfl, ht 88 rfl, ht 89 rfl, ht 90 rfl, ht 91 rfl, ht 92 rfl, ht 93 rfl⟩
  case round =>
    obtain ⟨⟨k, hk, rfl⟩, g4, g12, g13, g14, g73, g74, g75, g76, g77, g78, g79, g80, g81, g82, g83, g84, g85, g86, g87, g88, g89, g90, g91, g92, g93⟩ := hrel
    by_cases hkl : k < len
    · have hc := hcell k hkl
      go_wp2_with (first | (go_at_call 18; refine (Tryz.doOff hb ho pv (ss k) W q0 q3).mono ?_; rintro e W2 ⟨rfl, rfl⟩))
      exact ⟨⟨⟨k + 1, by omega, by simp⟩, g4, inInt _ _ _, inStr _ _, inInt _ _ _, inInt _ _ _, hl, inInt _ _ _, inBool _ _, inInt _ _ _, inInt _ _ _, inTold _, hp, hl, inInt _ _ _, hadd _ hkl, inStr _ _, inTold _, inStr _ _, inInt _ _ _, inInt _ _ _, inBool _ _, inBool _ _, inStr _ _, inBool _ _, inBool _ _⟩, by simp [intOf]; omega⟩
    · go_wp2
      obtain ⟨hK⟩ := hN
      refine hK _ _ (use_tail hT rfl fun i hi => ?_)
      rcases loopSlot_cases hi with rfl|rfl|rfl|rfl|rfl|rfl|rfl|rfl|rfl|rfl|rfl|rfl|rfl|rfl|rfl|rfl|rfl|rfl|rfl|rfl|rfl|rfl|rfl|rfl|rfl
      · exact g4
      · exact inInt _ _ _
      · exact g13
      · exact g14
      · exact inInt _ _ _
      · exact hl
      · exact inInt _ _ _
      · exact inBool _ _
      · exact g77
      · exact g78
      · exact g79
      · exact g80
      · exact g81
      · exact g82
      · exact g83
      · exact g84
      · exact g85
      · exact g86
      · exact g87
      · exact g88
      · exact g89
      · exact g90
      · exact g91
      · exact g92
      · exact g93

set_option maxRecDepth 100000 in
set_option maxHeartbeats 2000000 in
theorem dead_loop_nil  (hb ho : Nat) (pv : Addr) (W : World) (q0 : W.cell? ⟨hb, ho, none⟩ = some (.pointer (some pv))) (q3 : W.cell? ⟨hb, ho + 3, none⟩ = some (.bool true)) {β : Emb}
    (hp : HasIn β (.pointer (some ⟨hb, ho, none⟩))) (hl : HasIn β (Value.slice none 0 0)) (t : Nat → Value) (ht : ∀ i, loopSlot i = true → HasIn β (t i)) (R : Ending → World → Prop)
    (hT : ∀ z : Nat → Value, (∀ i, loopSlot i = true → HasIn β (z i)) → tail6.wp Tryz.prog (bodyPost Tryz.prog Tryz.f6 R) ⟨(mergeV z 0 [Value.slice none 0 0, t 1, t 2, t 3, t 4, t 5, (Value.pointer (some ⟨hb, ho, none⟩)), t 7, t 8, t 9, t 10, t 11, t 12, t 13, t 14, t 15, t 16, t 17, t 18, t 19, t 20, t 21, t 22, t 23, t 24, t 25, t 26, t 27, t 28, t 29, t 30, t 31, t 32, t 33, t 34, t 35, t 36, t 37, t 38, t 39, t 40, t 41, t 42, t 43, t 44, t 45, t 46, t 47, t 48, t 49, t 50, t 51, t 52, t 53, t 54, t 55, t 56, t 57, t 58, t 59, t 60, t 61, t 62, t 63, t 64, t 65, t 66, t 67, t 68, t 69, t 70, t 71, t 72, t 73, t 74, t 75, t 76, t 77, t 78, t 79, t 80, t 81, t 82, t 83, t 84, t 85, t 86, t 87, t 88, t 89, t 90, t 91, t 92, t 93, t 94, t 95, t 96, t 97, t 98, t 99, t 100, t 101, t 102, t 103, t 104, t 105, t 106, t 107, t 108, t 109, t 110, t 111, t 112, t 113, t 114, t 115, t 116, t 117, t 118, t 119, t 120, t 121, t 122, t 123, t 124, t 125, t 126, t 127, t 128, t 129]).toArray, []⟩ W) :
    ∀ c, tailO 9 (Tryz.f6.body.getD .skip) = some c → c.wp Tryz.prog (bodyPost Tryz.prog Tryz.f6 R) ⟨#[Value.slice none 0 0, t 1, t 2, t 3, t 4, t 5, (Value.pointer (some ⟨hb, ho, none⟩)), t 7, t 8, t 9, t 10, t 11, t 12, t 13, t 14, t 15, t 16, t 17, t 18, t 19, t 20, t 21, t 22, t 23, t 24, t 25, t 26, t 27, t 28, t 29, t 30, t 31, t 32, t 33, t 34, t 35, t 36, t 37, t 38, t 39, t 40, t 41, t 42, t 43, t 44, t 45, t 46, t 47, t 48, t 49, t 50, t 51, t 52, t 53, t 54, t 55, t 56, t 57, t 58, t 59, t 60, t 61, t 62, t 63, t 64, t 65, t 66, t 67, t 68, t 69, t 70, t 71, t 72, t 73, t 74, t 75, t 76, t 77, t 78, t 79, t 80, t 81, t 82, t 83, t 84, t 85, t 86, t 87, t 88, t 89, t 90, t 91, t 92, t 93, t 94, t 95, t 96, t 97, t 98, t 99, t 100, t 101, t 102, t 103, t 104, t 105, t 106, t 107, t 108, t 109, t 110, t 111, t 112, t 113, t 114, t 115, t 116, t 117, t 118, t 119, t 120, t 121, t 122, t 123, t 124, t 125, t 126, t 127, t 128, t 129], []⟩ W := by
  refine wp_of_some rfl ?_
  go_wp2
  rename_i K hK
  have hN := Nonempty.intro hK
  clear hK
  go_loop [4, 12, 13, 14, 73, 74, 75, 76, 77, 78, 79, 80, 81, 82, 83, 84, 85, 86, 87, 88, 89, 90, 91, 92, 93] (fun a4 a12 a13 a14 a73 a74 a75 a76 a77 a78 a79 a80 a81 a82 a83 a84 a85 a86 a87 a88 a89 a90 a91 a92 a93 => a12 = .int .i64 0 ∧ HasIn β a4 ∧ HasIn β a12 ∧ HasIn β a13 ∧ HasIn β a14 ∧ HasIn β a73 ∧ HasIn β a74 ∧ HasIn β a75 ∧ HasIn β a76 ∧ HasIn β a77 ∧ HasIn β a78 ∧ HasIn β a79 ∧ HasIn β a80 ∧ HasIn β a81 ∧ HasIn β a82 ∧ HasIn β a83 ∧ HasIn β a84 ∧ HasIn β a85 ∧ HasIn β a86 ∧ HasIn β a87 ∧ HasIn β a88 ∧ HasIn β a89 ∧ HasIn β a90 ∧ HasIn β a91 ∧ HasIn β a92 ∧ HasIn β a93) (fun a4 a12 a13 a14 a73 a74 a75 a76 a77 a78 a79 a80 a81 a82 a83 a84 a85 a86 a87 a88 a89 a90 a91 a92 a93 => 0)
  case atStart => exact ⟨rfl, ht 4 rfl, inInt _ _ _, ht 13 rfl, ht 14 rfl, ht 73 rfl, ht 74 rfl, ht 75 rfl, ht 76 rfl, ht 77 rfl, ht 78 rfl, ht 79 rfl, ht 80 rfl, ht 81 rfl, ht 82 rfl, ht 83 rfl, ht 84 rfl, ht 85 rfl, ht 86 rfl, ht 87 rfl, ht 88 rfl, ht 89 rfl, ht 90 rfl, ht 91 rfl, ht 92 rfl, ht 93 rfl⟩
  case round =>
    obtain ⟨rfl, g4, g12, g13, g14, g73, g74, g75, g76, g77, g78, g79, g80, g81, g82, g83, g84, g85, g86, g87, g88, g89, g90, g91, g92, g93⟩ := hrel
    go_wp2
    obtain ⟨hK⟩ := hN
    refine hK _ _ (use_tail hT rfl fun i hi => ?_)
    rcases loopSlot_cases hi with rfl|rfl|rfl|rfl|rfl|rfl|rfl|rfl|rfl|rfl|rfl|rfl|rfl|rfl|rfl|rfl|rfl|rfl|rfl|rfl|rfl|rfl|rfl|rfl|rfl
    · exact g4
    · exact inInt _ _ _
    · exact g13
    · exact g14
    · exact inInt _ _ _
    · exact hl
    · exact inInt _ _ _
    · exact inBool _ _
    · exact g77
    · exact g78
    · exact g79
    · exact g80
    · exact g81
    · exact g82
    · exact g83
    · exact g84
    · exact g85
    · exact g86
    · exact g87
    · exact g88
    · exact g89
    · exact g90
    · exact g91
    · exact g92
    · exact g93

end Go.Proofs.YtoaagilfkboepaaGreatDoor
