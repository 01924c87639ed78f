/-
  The third config is right. Printed by a program of ours (cfg3.py).
-/
import Derived.Test.YtoaagilfkboepaaGreatDoorCfg3Def
import Derived.Test.YtoaagilfkboepaaGreatDoorRuns
import Derived.Test.YtoaagilfkboepaaGreatDoorWalkBang
set_option linter.unusedSimpArgs false
set_option linter.unusedVariables false
namespace Go.Proofs.YtoaagilfkboepaaGreatDoor
open Go Go.Sx Go.Proofs Go.RowKit
variable {o0 o3 : Obj} {more : Base}
theorem pr33b (h0 : Is0 o0) (h3 : Is3 o3) : PrimOk Tryz.prog (base o0 o3 more) 33 pSplitAt2 := prim_split2 (g := 0) (maxLen_is h0) 9 Tryz.call33 (fun s sep m w h1 h2 h3 => Tryz.strings_Split s sep m w h1 h2 h3)
theorem pr150 : PrimOk Tryz.prog (base o0 o3 more) 150 pHasBangAt := prim_hasBang Tryz.call150 (fun s w h => Tryz.hasBang s h w)
theorem prAll3 (h0 : Is0 o0) (h3 : Is3 o3) : prTree3.Every (PrimOk Tryz.prog (base o0 o3 more)) id := ⟨every_none, ⟨every_none, ⟨every_none, trivial, ⟨every_none, ⟨every_none, ⟨every_none, ⟨every_none, ⟨every_none, ⟨every_some pr259, trivial, trivial⟩, trivial⟩, trivial⟩, trivial⟩, ⟨every_some pr51, trivial, trivial⟩⟩, ⟨every_none, ⟨every_none, trivial, ⟨every_some pr107, trivial, trivial⟩⟩, trivial⟩⟩⟩, ⟨every_none, ⟨every_none, ⟨every_none, ⟨every_some (pr33b h0 h3), trivial, trivial⟩, trivial⟩, ⟨every_none, ⟨every_none, trivial, ⟨every_none, trivial, ⟨every_some (pr233 h0 h3), trivial, trivial⟩⟩⟩, trivial⟩⟩, trivial⟩⟩, ⟨every_none, ⟨every_none, ⟨every_none, ⟨every_none, ⟨every_none, ⟨every_none, ⟨every_none, ⟨every_some pr256, trivial, trivial⟩, trivial⟩, trivial⟩, trivial⟩, ⟨every_some (pr48 h0 h3), trivial, ⟨every_none, trivial, ⟨every_none, ⟨every_some pr368, trivial, trivial⟩, trivial⟩⟩⟩⟩, ⟨every_none, ⟨every_none, ⟨every_none, ⟨every_some pr136, trivial, trivial⟩, trivial⟩, trivial⟩, ⟨every_some pr56, trivial, ⟨every_none, trivial, ⟨every_none, ⟨every_some pr376, trivial, trivial⟩, trivial⟩⟩⟩⟩⟩, ⟨every_none, ⟨every_none, ⟨every_none, ⟨every_none, ⟨every_none, ⟨every_some pr260, trivial, trivial⟩, trivial⟩, trivial⟩, trivial⟩, trivial⟩, trivial⟩⟩, ⟨every_none, ⟨every_none, ⟨every_none, ⟨every_none, ⟨every_none, ⟨every_none, ⟨every_some pr258, trivial, trivial⟩, trivial⟩, trivial⟩, trivial⟩, trivial⟩, ⟨every_none, ⟨every_none, trivial, ⟨every_none, trivial, ⟨every_some pr234, trivial, trivial⟩⟩⟩, trivial⟩⟩, ⟨every_none, ⟨every_none, ⟨every_none, ⟨every_none, ⟨every_some pr134, ⟨every_some pr262, trivial, trivial⟩, trivial⟩, trivial⟩, trivial⟩, ⟨every_none, ⟨every_none, ⟨every_some pr150, trivial, trivial⟩, trivial⟩, trivial⟩⟩, ⟨every_none, ⟨every_none, ⟨every_none, ⟨every_some pr142, trivial, trivial⟩, trivial⟩, trivial⟩, trivial⟩⟩⟩⟩⟩
theorem cfgOk3 (h0 : Is0 o0) (h3 : Is3 o3) : CfgOk Tryz.prog (base o0 o3 more) cfg3 := cfgOk_of tyAll (by kernel_rfl) fnAll (prAll3 h0 h3)
end Go.Proofs.YtoaagilfkboepaaGreatDoor
