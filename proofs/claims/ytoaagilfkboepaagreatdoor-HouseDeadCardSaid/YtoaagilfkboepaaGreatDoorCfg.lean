/-
  The config of this seat's program for SX: the tables, and the functions of the library that are answered by Lean functions. Printed by a program of ours (cfg.py).
-/
import Derived.Test.YtoaagilfkboepaaGreatDoorShelf
import Derived.Test.YtoaagilfkboepaaGreatDoorCfgDef
import Derived.Test.YtoaagilfkboepaaGreatDoorWalksBuilder
import Derived.Test.YtoaagilfkboepaaGreatDoorWalksMapsClone
import Derived.Test.YtoaagilfkboepaaGreatDoorWalkRead
import Derived.Test.YtoaagilfkboepaaGreatDoorWalkValid
set_option linter.unusedSimpArgs false
set_option linter.unusedVariables false
namespace Go.Proofs.YtoaagilfkboepaaGreatDoor
open Go Go.Sx Go.Proofs
/-- The library's variables that are looked at (bytealg.MaxLen, strconv's powers of ten), and other blocks that stay as they are. -/
def base (o0 o3 : Obj) (more : Base) : Base := (0, o0) :: (3, o3) :: more
variable {o0 o3 : Obj} {more : Base}
def Is0 (o : Obj) : Prop := ∃ cs T fz m, o = .cells cs T fz ∧ cs[0]? = some (.int .i64 m)
def Is3 (o : Obj) : Prop := ∃ T fz, o = .cells (Lib.pow10Tab.map fun z => Value.int .u64 z).toArray T fz
theorem maxLen_is (h0 : Is0 o0) (β : Emb) (H : AHeap) (w : World) (h : (base o0 o3 more).At β H w) : ∃ m, w.cell? ⟨0, 0, none⟩ = some (.int .i64 m) := by
  obtain ⟨cs, T, fz, m, rfl, hm⟩ := h0
  have := (h _ (List.mem_cons_self ..)).1
  exact ⟨m, by simp [World.cell?, this, hm]⟩
theorem pow10_is (h3 : Is3 o3) (β : Emb) (H : AHeap) (w : World) (h : (base o0 o3 more).At β H w) : Lib.TabIs Tryz.prog w "internal/strconv.uint64pow10" .u64 Lib.pow10Tab := by
  obtain ⟨T, fz, rfl⟩ := h3
  have := (h _ (List.mem_cons_of_mem _ (List.mem_cons_self ..))).1
  have hg : Tryz.prog.globalNamed "internal/strconv.uint64pow10" = some 3 := by kernel_rfl
  simp [Lib.TabIs, World.var?, hg, this]
theorem pr33 (h0 : Is0 o0) (h3 : Is3 o3) : PrimOk Tryz.prog (base o0 o3 more) 33 pSplitAt := prim_split (g := 0) (maxLen_is h0) 9 Tryz.call33 (fun s sep m w h1 h2 h3 => Tryz.strings_Split s sep m w h1 h2 h3)
theorem pr48 (h0 : Is0 o0) (h3 : Is3 o3) : PrimOk Tryz.prog (base o0 o3 more) 48 pCutAt := prim_cut (g := 0) (maxLen_is h0) Tryz.call48 (fun s sep m w h1 h2 => Tryz.strings_Cut s sep m w h1 h2)
theorem pr51 : PrimOk Tryz.prog (base o0 o3 more) 51 pJoinAt := prim_join Tryz.call51 (fun a c sep w => Tryz.strings_Join_none a c sep w) (fun bk o c xs sep w h1 h2 h3 h4 h5 => Tryz.strings_Join bk o c xs sep w h1 h2 h3 h4 h5)
theorem pr56 : PrimOk Tryz.prog (base o0 o3 more) 56 pNameAt := prim_nameAt Tryz.call56 (fun s w h => Tryz.roleValid s h w)
theorem pr107 : PrimOk Tryz.prog (base o0 o3 more) 107 pCloneAt2 := prim_cloneAt2 Tryz.call107 (fun s w h => Tryz.stringslite_Clone s w h)
theorem pr134 : PrimOk Tryz.prog (base o0 o3 more) 134 pClothReadAt := Tryz.prim_clothRead
theorem pr136 : PrimOk Tryz.prog (base o0 o3 more) 136 (pStringAt 207 5) := prim_string 207 5 Tryz.call136 (fun b w h => Tryz.builderStringNil b w h) (fun b g cap cells l h0 w hb hcap hsh hn h63 hcell => Tryz.builderString b g l.length cap cells l h0 w hb hcap hsh hn h63 hcell)
theorem pr142 : PrimOk Tryz.prog (base o0 o3 more) 142 pMapsClone2 := prim_mapsClone Tryz.call142 (fun b es clock w h => Tryz.mapsClone142 b es clock w h) (fun w => Tryz.mapsCloneNil142 w)
theorem pr233 (h0 : Is0 o0) (h3 : Is3 o3) : PrimOk Tryz.prog (base o0 o3 more) 233 pItoaAt := prim_itoa Tryz.call233 (pow10_is h3) (fun i w h => Tryz.strconv_Itoa_small i h w) (fun n w h1 h2 h3 => Tryz.strconv_Itoa n h1 h2 w h3)
theorem pr234 : PrimOk Tryz.prog (base o0 o3 more) 234 pMapsClone2 := prim_mapsClone Tryz.call234 (fun b es clock w h => Tryz.mapsClone234 b es clock w h) (fun w => Tryz.mapsCloneNil234 w)
theorem pr256 : PrimOk Tryz.prog (base o0 o3 more) 256 (pCopyCheckAt 207) := prim_copyCheck 207 Tryz.call256 (fun b w h => Tryz.copyCheck_used b w h) (fun b w h1 h2 h3 => Tryz.copyCheck_fresh b w h1 h2 h3)
theorem pr258 : PrimOk Tryz.prog (base o0 o3 more) 258 pMapsClone2 := prim_mapsClone Tryz.call258 (fun b es clock w h => Tryz.mapsClone258 b es clock w h) (fun w => Tryz.mapsCloneNil258 w)
theorem pr259 : PrimOk Tryz.prog (base o0 o3 more) 259 pMapsClone2 := prim_mapsClone Tryz.call259 (fun b es clock w h => Tryz.mapsClone259 b es clock w h) (fun w => Tryz.mapsCloneNil259 w)
theorem pr260 : PrimOk Tryz.prog (base o0 o3 more) 260 pMapsClone2 := prim_mapsClone Tryz.call260 (fun b es clock w h => Tryz.mapsClone260 b es clock w h) (fun w => Tryz.mapsCloneNil260 w)
theorem pr262 : PrimOk Tryz.prog (base o0 o3 more) 262 pMapsClone2 := prim_mapsClone Tryz.call262 (fun b es clock w h => Tryz.mapsClone262 b es clock w h) (fun w => Tryz.mapsCloneNil262 w)
theorem pr368 : PrimOk Tryz.prog (base o0 o3 more) 368 pAtoiAt := prim_atoi 5 Tryz.call368 (fun s n h1 h2 w => Tryz.strconv_Atoi s n h1 h2 w)
theorem pr376 : PrimOk Tryz.prog (base o0 o3 more) 376 pMapsClone2 := prim_mapsClone Tryz.call376 (fun b es clock w h => Tryz.mapsClone376 b es clock w h) (fun w => Tryz.mapsCloneNil376 w)
theorem prAll (h0 : Is0 o0) (h3 : Is3 o3) : prTree.Every (PrimOk Tryz.prog (base o0 o3 more)) id := ⟨every_none, ⟨every_none, ⟨every_none, trivial, ⟨every_none, ⟨every_none, ⟨every_none, ⟨every_none, ⟨every_none, ⟨every_some pr259, trivial, trivial⟩, trivial⟩, trivial⟩, trivial⟩, ⟨every_some pr51, trivial, trivial⟩⟩, ⟨every_none, ⟨every_none, trivial, ⟨every_some pr107, trivial, trivial⟩⟩, trivial⟩⟩⟩, ⟨every_none, ⟨every_none, ⟨every_none, ⟨every_some (pr33 h0 h3), trivial, trivial⟩, trivial⟩, ⟨every_none, ⟨every_none, trivial, ⟨every_none, trivial, ⟨every_some (pr233 h0 h3), trivial, trivial⟩⟩⟩, trivial⟩⟩, trivial⟩⟩, ⟨every_none, ⟨every_none, ⟨every_none, ⟨every_none, ⟨every_none, ⟨every_none, ⟨every_none, ⟨every_some pr256, trivial, trivial⟩, trivial⟩, trivial⟩, trivial⟩, ⟨every_some (pr48 h0 h3), trivial, ⟨every_none, trivial, ⟨every_none, ⟨every_some pr368, trivial, trivial⟩, trivial⟩⟩⟩⟩, ⟨every_none, ⟨every_none, ⟨every_none, ⟨every_some pr136, trivial, trivial⟩, trivial⟩, trivial⟩, ⟨every_some pr56, trivial, ⟨every_none, trivial, ⟨every_none, ⟨every_some pr376, trivial, trivial⟩, trivial⟩⟩⟩⟩⟩, ⟨every_none, ⟨every_none, ⟨every_none, ⟨every_none, ⟨every_none, ⟨every_some pr260, trivial, trivial⟩, trivial⟩, trivial⟩, trivial⟩, trivial⟩, trivial⟩⟩, ⟨every_none, ⟨every_none, ⟨every_none, ⟨every_none, ⟨every_none, ⟨every_none, ⟨every_some pr258, trivial, trivial⟩, trivial⟩, trivial⟩, trivial⟩, trivial⟩, ⟨every_none, ⟨every_none, trivial, ⟨every_none, trivial, ⟨every_some pr234, trivial, trivial⟩⟩⟩, trivial⟩⟩, ⟨every_none, ⟨every_none, ⟨every_none, ⟨every_none, ⟨every_some pr134, ⟨every_some pr262, trivial, trivial⟩, trivial⟩, trivial⟩, trivial⟩, trivial⟩, ⟨every_none, ⟨every_none, ⟨every_none, ⟨every_some pr142, trivial, trivial⟩, trivial⟩, trivial⟩, trivial⟩⟩⟩⟩⟩
theorem cfgOk (h0 : Is0 o0) (h3 : Is3 o3) : CfgOk Tryz.prog (base o0 o3 more) cfg := cfgOk_of tyAll (by kernel_rfl) fnAll (prAll h0 h3)
end Go.Proofs.YtoaagilfkboepaaGreatDoor
