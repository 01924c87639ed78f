/-
  HouseDead: the parts ahead of the loop and behind it, by SX.
-/
import Derived.Test.YtoaagilfkboepaaGreatDoorHouseDeadLoopAll
import Derived.Test.YtoaagilfkboepaaGreatDoorRuns
import Derived.Deep.Cut
set_option linter.unusedSimpArgs false
set_option linter.unusedVariables false
namespace Go.Proofs.YtoaagilfkboepaaGreatDoor
open Go Go.RowKit Go.Sx Go.Proofs Go.ChangeMaps
/-- The lines, as the model holds them. -/
inductive Lines (w : World) : Value → Prop where
  | nil : Lines w (.slice none 0 0)
  | some (b o len cap : Nat) (ss : Nat → ByteArray) (hlen : len ≤ cap) (hcap : cap ≤ 9223372036854775807) (hb : b < w.heap.size) (hc : ∀ i, i < len → w.cell? ⟨b, o + i, none⟩ = some (.string (ss i))) (hs : ∀ i, (ss i).size ≤ 9223372036854775807) : Lines w (.slice (some ⟨b, o, none⟩) len cap)
theorem in_all {β : Emb} (l : List Value) (h : ∀ v ∈ l, HasIn β v) : ∃ x : Nat → AVal, VRs β ((List.range l.length).map x) l := by
  refine ⟨fun i => if hi : i < l.length then Classical.choose (h l[i] (List.getElem_mem hi)) else default, VRs.of_get (by simp) fun i a ha => ?_⟩
  rw [List.getElem?_map] at ha
  cases hr : (List.range l.length)[i]? with
  | none => rw [hr] at ha; cases ha
  | some k =>
    obtain ⟨hk, e⟩ := List.getElem?_eq_some_iff.1 hr
    simp only [List.length_range] at hk
    simp only [List.getElem_range] at e
    subst e
    rw [hr] at ha
    simp only [Option.map_some, Option.some.injEq, hk, dite_true] at ha
    subst ha
    exact ⟨l[i], List.getElem?_eq_getElem hk, Classical.choose_spec (h l[i] (List.getElem_mem hk))⟩
theorem cell_same {w W : World} {a : Addr} (h : W.heap[a.block]? = w.heap[a.block]?) : W.cell? a = w.cell? a := by
  unfold World.cell?
  rw [h]
theorem code6_ok : okCode code6 = true := by kernel_rfl
theorem tail6_ok : okCode tail6 = true := by kernel_rfl
theorem tailO_eq : ∀ (n : Nat) (c : Code), tailO n c = some (tailOf n c)
  | 0, _ => rfl
  | n + 1, .seq _ c => tailO_eq n c
  | _ + 1, .skip => rfl
  | _ + 1, .label _ => rfl
  | _ + 1, .exit _ => rfl
  | _ + 1, .ret => rfl
  | _ + 1, .region .. => rfl
  | _ + 1, .cond .. => rfl
  | _ + 1, .block .. => rfl
  | _ + 1, .loop .. => rfl
  | _ + 1, .scope .. => rfl
  | _ + 1, .rangeFunc .. => rfl
  | _ + 1, .goto _ => rfl
  | _ + 1, .refuse _ => rfl
theorem tail9 {c r : Code} (h : code6 = .seq c r) : tailO 9 (Tryz.f6.body.getD .skip) = some (tailOf 6 r) := by
  have e : tailOf 9 (Tryz.f6.body.getD .skip) = tailOf 7 code6 := by kernel_rfl
  rw [tailO_eq, e, h]
  rfl
theorem tmps_explicit {ts : Array Value} (h : ts.size = 130) {t : Nat → Value} (ht : ∀ i, i < 130 → t i = ts.getD i undef) : ts = #[t 0, t 1, t 2, t 3, t 4, t 5, t 6, t 7, t 8, t 9, t 10, t 11, t 12, t 13, t 14, t 15, t 16, t 17, t 18, t 19, t 20, t 21, t 22, t 23, t 24, t 25, t 26, t 27, t 28, t 29, t 30, t 31, t 32, t 33, t 34, t 35, t 36, t 37, t 38, t 39, t 40, t 41, t 42, t 43, t 44, t 45, t 46, t 47, t 48, t 49, t 50, t 51, t 52, t 53, t 54, t 55, t 56, t 57, t 58, t 59, t 60, t 61, t 62, t 63, t 64, t 65, t 66, t 67, t 68, t 69, t 70, t 71, t 72, t 73, t 74, t 75, t 76, t 77, t 78, t 79, t 80, t 81, t 82, t 83, t 84, t 85, t 86, t 87, t 88, t 89, t 90, t 91, t 92, t 93, t 94, t 95, t 96, t 97, t 98, t 99, t 100, t 101, t 102, t 103, t 104, t 105, t 106, t 107, t 108, t 109, t 110, t 111, t 112, t 113, t 114, t 115, t 116, t 117, t 118, t 119, t 120, t 121, t 122, t 123, t 124, t 125, t 126, t 127, t 128, t 129] := by
  have e : ts.toList = (List.range 130).map t := by
    refine List.ext_getElem (by simpa using h) fun i h1 h2 => ?_
    have hi : i < 130 := by simpa using h2
    have hi' : i < ts.size := by omega
    simp [ht i hi, hi', Array.getD_eq_getD_getElem?]
  have e2 : ts = ((List.range 130).map t).toArray := by rw [← e]
  rw [e2]
  rfl
set_option maxRecDepth 100000 in
theorem dead_rest {o0 o3 : Obj} (h0 : Is0 o0) (h3 : Is3 o3) {n : Int} (hrun : ∀ x y, deadRes n x y = (true, some (x 0))) {w : World} (hw0 : w.heap[0]? = some o0) (hw3 : w.heap[3]? = some o3) {l : Value}
    (W : World) (hb : Below w.heap.size w W) {c r : Code} (hcr : code6 = .seq c r) {K : Act → World → Prop}
    (hK : ∀ a w', r.wp Tryz.prog (bodyPost Tryz.prog Tryz.f6 fun e w' => e = .returned (.bool true) ∧ Below w.heap.size w w') a w' → K a w')
    {tm : Array Value} (htm : ∃ rest : List Value, tm.toList = l :: .int .i64 n :: rest ∧ rest.length = 128 ∧ ∀ (β : Emb), HasIn β l → ∀ v ∈ rest, HasIn β v)
    (β : Emb) (x0 : AVal) (hx0 : VR β x0 l) (hdom : ∀ b x, β b = some x → b < 1 ∧ x.1 < W.heap.size)
    (hloop : ∀ (β' : Emb) (W' : World) (hb ho : Nat) (pv : Addr) (t : Nat → Value), β.le β' → (∀ c, c < W.heap.size → W'.heap[c]? = W.heap[c]?) → W'.cell? ⟨hb, ho, none⟩ = some (.pointer (some pv)) → W'.cell? ⟨hb, ho + 3, none⟩ = some (.bool true) →
      (∀ i, i < 130 → HasIn β' (t i)) → VR β' x0 (t 0) → t 6 = .pointer (some ⟨hb, ho, none⟩) →
      (∀ z : Nat → Value, (∀ i, loopSlot i = true → HasIn β' (z i)) → tail6.wp Tryz.prog (bodyPost Tryz.prog Tryz.f6 fun e w' => e = .returned (.bool true) ∧ Below w.heap.size w w') ⟨(mergeV z 0 [t 0, t 1, t 2, t 3, t 4, t 5, t 6, t 7, t 8, t 9, t 10, t 11, t 12, t 13, t 14, t 15, t 16, t 17, t 18, t 19, t 20, t 21, t 22, t 23, t 24, t 25, t 26, t 27, t 28, t 29, t 30, t 31, t 32, t 33, t 34, t 35, t 36, t 37, t 38, t 39, t 40, t 41, t 42, t 43, t 44, t 45, t 46, t 47, t 48, t 49, t 50, t 51, t 52, t 53, t 54, t 55, t 56, t 57, t 58, t 59, t 60, t 61, t 62, t 63, t 64, t 65, t 66, t 67, t 68, t 69, t 70, t 71, t 72, t 73, t 74, t 75, t 76, t 77, t 78, t 79, t 80, t 81, t 82, t 83, t 84, t 85, t 86, t 87, t 88, t 89, t 90, t 91, t 92, t 93, t 94, t 95, t 96, t 97, t 98, t 99, t 100, t 101, t 102, t 103, t 104, t 105, t 106, t 107, t 108, t 109, t 110, t 111, t 112, t 113, t 114, t 115, t 116, t 117, t 118, t 119, t 120, t 121, t 122, t 123, t 124, t 125, t 126, t 127, t 128, t 129]).toArray, []⟩ W') →
      (tailOf 6 r).wp Tryz.prog (bodyPost Tryz.prog Tryz.f6 fun e w' => e = .returned (.bool true) ∧ Below w.heap.size w w') ⟨#[t 0, t 1, t 2, t 3, t 4, t 5, t 6, t 7, t 8, t 9, t 10, t 11, t 12, t 13, t 14, t 15, t 16, t 17, t 18, t 19, t 20, t 21, t 22, t 23, t 24, t 25, t 26, t 27, t 28, t 29, t 30, t 31, t 32, t 33, t 34, t 35, t 36, t 37, t 38, t 39, t 40, t 41, t 42, t 43, t 44, t 45, t 46, t 47, t 48, t 49, t 50, t 51, t 52, t 53, t 54, t 55, t 56, t 57, t 58, t 59, t 60, t 61, t 62, t 63, t 64, t 65, t 66, t 67, t 68, t 69, t 70, t 71, t 72, t 73, t 74, t 75, t 76, t 77, t 78, t 79, t 80, t 81, t 82, t 83, t 84, t 85, t 86, t 87, t 88, t 89, t 90, t 91, t 92, t 93, t 94, t 95, t 96, t 97, t 98, t 99, t 100, t 101, t 102, t 103, t 104, t 105, t 106, t 107, t 108, t 109, t 110, t 111, t 112, t 113, t 114, t 115, t 116, t 117, t 118, t 119, t 120, t 121, t 122, t 123, t 124, t 125, t 126, t 127, t 128, t 129], []⟩ W') :
    c.wp Tryz.prog (Exit.then K (bodyPost Tryz.prog Tryz.f6 fun e w' => e = .returned (.bool true) ∧ Below w.heap.size w w')) ⟨tm, []⟩ W := by
  obtain ⟨rest, ht1, ht2, ht3⟩ := htm
  have hc : CfgOk Tryz.prog (base o0 o3 []) cfg := cfgOk h0 h3
  obtain ⟨xs, hxs⟩ := in_all rest (ht3 β ⟨x0, hx0⟩)
  rw [ht2] at hxs
  have hrx := fun y => hrun (fun i => if i = 0 then x0 else xs (i - 2)) y
  unfold deadRes at hrx
  generalize hpre : aPre cfg (aCall cfg 100000 200) 100000 7 code6 (frame6 n fun i => if i = 0 then x0 else xs (i - 2)) ⟨.leaf, 1⟩ = pre at hrx
  cases pre with
  | none => have := hrx (fun _ => default); cases this
  | some p =>
    obtain ⟨fr, H⟩ := p
    simp only [Prod.mk.injEq, Bool.and_eq_true] at hrx
    rw [hcr] at hpre
    have hok : okCode (.seq c r) = true := by rw [← hcr]; exact code6_ok
    have hR : Rel β ⟨.leaf, 1⟩ W.heap := ⟨fun b x e => hdom b x e, (fun _ _ _ e => nomatch e), (fun _ _ _ _ _ _ e => nomatch e)⟩
    have hBase : (base o0 o3 []).At β ⟨.leaf, 1⟩ W := by
      intro p hp
      simp only [base, List.mem_cons, List.not_mem_nil, or_false] at hp
      rcases hp with rfl | rfl
      · exact ⟨(hb.block 0 (Array.getElem?_eq_some_iff.1 hw0).1).trans hw0, fun _ _ _ e => nomatch e⟩
      · exact ⟨(hb.block 3 (Array.getElem?_eq_some_iff.1 hw3).1).trans hw3, fun _ _ _ e => nomatch e⟩
    refine pre_enter hc hpre hok hBase ?_ hR hK ?_
    · unfold FrR
      rw [ht1]
      exact .cons _ _ _ _ hx0 (.cons _ _ _ _ (.int _ _) hxs)
    · intro β' a' W' hd hF hR' hE hB'
      obtain ⟨⟨hoff, hlen, _⟩, hf0⟩ := hrx fun _ => default
      have hlen' : fr.length = 130 := Nat.eq_of_beq_eq_true hlen
      have hsame : ∀ c, c < W.heap.size → W'.heap[c]? = W.heap[c]? := fun c hc => hE.frame c hc fun _ _ _ e => nomatch e
      have hts : a'.tmps.size = 130 := by
        have := VRs.length hF
        rw [hlen'] at this
        simpa using this.symm
      obtain ⟨t, ht⟩ : ∃ t : Nat → Value, ∀ i, i < 130 → t i = a'.tmps.getD i undef := ⟨fun i => a'.tmps.getD i undef, fun _ _ => rfl⟩
      have hget : ∀ i u, fr[i]? = some u → VR β' u (t i) := by
        intro i u hu
        have hi : i < 130 := by rw [← hlen']; exact (List.getElem?_eq_some_iff.1 hu).1
        obtain ⟨v, hv, hva⟩ := VRs.get hF hu
        rw [Array.getElem?_toList] at hv
        rw [ht i hi, Array.getD_eq_getD_getElem?, hv]
        exact hva
      have hall : ∀ i, i < 130 → HasIn β' (t i) := fun i hi => ⟨_, hget i _ (List.getElem?_eq_getElem (show i < fr.length by omega))⟩
      have hexp := tmps_explicit hts ht
      obtain ⟨tm', df'⟩ := a'
      simp only at hd hexp hF
      subst hd
      subst hexp
      unfold offHouse at hoff
      split at hoff
      · rename_i h hf6
        split at hoff
        · rename_i p1 p2 p3 p4 ro ty hgeth
          obtain ⟨bh, baseh, nh, h6, hβh⟩ := (hget 6 _ hf6).ptr_inv
          obtain ⟨cs, T, fz, hcs, -, -, hcells, -⟩ := hR'.obj _ _ _ hgeth hβh
          obtain ⟨-, u0, hu0, hru0⟩ := hcells 0 _ rfl
          obtain ⟨-, u3, hu3, hru3⟩ := hcells 3 _ rfl
          obtain ⟨b1, base1, n1, e0, -⟩ := hru0.ptr_inv
          subst e0
          cases hru3
          refine hloop β' W' bh (baseh + 0) ⟨b1, base1 + p2, none⟩ t hE.le hsame ?_ ?_ hall (hget 0 _ hf0) h6 fun z hz => ?_
          · unfold World.cell?
            simp only
            rw [hcs]
            simpa using hu0
          · unfold World.cell?
            simp only
            rw [hcs]
            simpa using hu3
          · obtain ⟨y, hy⟩ := merge_R hz
            have hy' := hy fr _ hF 0
            obtain ⟨⟨_, _, htail⟩, _⟩ := hrx y
            unfold isTrue at htail
            split at htail
            · rename_i H'' he
              refine tail_sound hc tail6_ok he rfl hB' (by exact hy') hR' ?_
              rintro e w' ⟨β'', v', rfl, hv', _, hE2⟩
              cases hv'
              have hE3 := hE.trans hE2 hE.next hdom
              exact ⟨rfl, hb.trans ((show Below W.heap.size W w' from ⟨hE3.os, hE3.tape, hE3.output, hE3.size, fun c hc => hE3.frame c hc fun _ _ _ e => nomatch e⟩).mono hb.size)⟩
            · cases htail
        · cases hoff
      · cases hoff
end Go.Proofs.YtoaagilfkboepaaGreatDoor

/-
  HouseDead: the walk up to the first part that SX runs; and a number that is out of range.
-/
namespace Go.Proofs.YtoaagilfkboepaaGreatDoor
open Go Go.RowKit Go.Sx Go.Proofs Go.ChangeMaps
set_option maxRecDepth 100000 in
set_option maxHeartbeats 2000000 in
theorem dead_in (n : Int) (hn1 : 0 ≤ n) (hn2 : n ≤ 3) (l : Value) (w : World) (hlight : Calls Tryz.prog 20 #[l] w fun e W' => RetBool e ∧ W' = w)
    (ha : Calls Tryz.prog 15 #[] w fun e w' => e = .returned (.bool true) ∧ Below w.heap.size w w')
    (hrest : ∀ (W : World), Below w.heap.size w W → ∀ {c r : Code}, code6 = .seq c r → ∀ {K : Act → World → Prop}, (∀ a w', r.wp Tryz.prog (bodyPost Tryz.prog Tryz.f6 fun e w' => e = .returned (.bool true) ∧ Below w.heap.size w w') a w' → K a w') →
      ∀ {tm : Array Value}, (∃ rest : List Value, tm.toList = l :: .int .i64 n :: rest ∧ rest.length = 128 ∧ ∀ (β : Emb), HasIn β l → ∀ v ∈ rest, HasIn β v) →
      c.wp Tryz.prog (Exit.then K (bodyPost Tryz.prog Tryz.f6 fun e w' => e = .returned (.bool true) ∧ Below w.heap.size w w')) ⟨tm, []⟩ W) :
    Calls Tryz.prog 6 #[l, .int .i64 n] w fun e w' => e = .returned (.bool true) ∧ Below w.heap.size w w' := by
  go_enter Tryz.func6, Tryz.ntmps6
  go_wp2_with fail
  refine hlight.mono ?_
  rintro e W ⟨⟨b, rfl⟩, rfl⟩
  cases b
  · go_wp2_with (first | (go_at_call 15; refine ha.mono ?_; rintro e W1 ⟨rfl, hB⟩))
    go_ret
    exact ⟨rfl, hB⟩
  · go_upto_region 3 with (first | (go_at_call 15; refine ha.mono ?_; rintro e W1 ⟨rfl, hB⟩))
    rename_i hcond K hK
    refine hrest _ hB rfl hK ⟨_, rfl, rfl, fun β hl => ?_⟩
    simp only [List.forall_mem_cons, inUndef, inInt, inBool, inStr, hl, true_and]
    exact fun _ h => by cases h
set_option maxRecDepth 100000 in
set_option maxHeartbeats 2000000 in
theorem dead_out (n : Int) (hn : n < 0 ∨ 3 < n) (l : Value) (w : World) (hlight : Calls Tryz.prog 20 #[l] w fun e W' => RetBool e ∧ W' = w)
    (ha : Calls Tryz.prog 15 #[] w fun e w' => e = .returned (.bool true) ∧ Below w.heap.size w w') :
    Calls Tryz.prog 6 #[l, .int .i64 n] w fun e w' => e = .returned (.bool true) ∧ Below w.heap.size w w' := by
  go_enter Tryz.func6, Tryz.ntmps6
  go_wp2_with fail
  refine hlight.mono ?_
  rintro e W ⟨⟨b, rfl⟩, rfl⟩
  cases b
  · go_wp2_with (first | (go_at_call 15; refine ha.mono ?_; rintro e W1 ⟨rfl, hB⟩))
    go_ret
    exact ⟨rfl, hB⟩
  · rcases hn with hn | hn
    · go_wp2_with (first | (go_at_call 15; refine ha.mono ?_; rintro e W1 ⟨rfl, hB⟩))
      go_ret
      exact ⟨rfl, hB⟩
    · have hn' : ¬ n < 0 := by omega
      go_wp2_with (first | (go_at_call 15; refine ha.mono ?_; rintro e W1 ⟨rfl, hB⟩))
      go_ret
      exact ⟨rfl, hB⟩
end Go.Proofs.YtoaagilfkboepaaGreatDoor
