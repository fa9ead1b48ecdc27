/- What the rows' listed variables give a walk; a world that meets them. -/
import Derived.Test.YtlaohefgofmfdaaDoorCards
import Derived.Test.YtlaohefgofmfdaaDoorTie
import Derived.Test.YtlaohefgofmfdaaDoorAsm9
import Derived.ProofKit
import Derived.OpenShut
import Derived.Deep.DeepHandedRow
import Derived.Deep.DeepWitnessRowRef
import Derived.Lib.LaidTab
import Derived.LaidMore
import Derived.PinnedBridge
import Derived.Lib.LaidU8
namespace Go.Proofs.YtlaohefgofmfdaaDoor
open Go.ChangeShapes Go.WideShapes Go.ChangeAt Go.RowKit
set_option maxRecDepth 100000
theorem own : ownKnob Tryd.prog.godebug = none := by kernel_rfl
theorem g0 : Tryd.prog.globalNamed "strings.asciiSpace" = some 0 := by kernel_rfl
theorem g0Type : (Tryd.prog.globals[0]?).map (·.type) = some 131 := by kernel_rfl
theorem cells131 : Tryd.prog.cellsOf 131 = 256 := by kernel_rfl
theorem cells5 : Tryd.prog.cellsOf 5 = 1 := by kernel_rfl
abbrev laidList : List (String × DataW Unit) := [("unicode/utf8.acceptRanges", Rows.laid_unicode_utf8_acceptRanges), ("unicode.White_Space", Rows.laid_unicode_White_Space), ("strings.asciiSpace", Rows.laid_strings_asciiSpace), ("unicode/utf8.first", Rows.laid_unicode_utf8_first)]
theorem space_eq : Rows.laid_strings_asciiSpace (H := Unit) = Lib.tabData .u8 Lib.asciiSpaceTab := by kernel_rfl
/-- WHAT THE ROW's LIST GIVES. -/
theorem lib_of_laid {W : World} (h : laidMetH Tryd.prog laidList W) (hs : W.ShapedOpen Tryd.prog) : LibAt W := by
  refine ⟨Tryd.laysM145.s1_3 W hs, ?_⟩
  rw [MakeChecks.laidMetH_plain _ _ _ (by kernel_rfl)] at h
  obtain ⟨ps, ⟨ga, ta, csa, fa, pa, qa, hga, hta, hva, hda, ⟨gb, tb, csb, fb, pb, qb, hgb, htb, hvb, hdb, ⟨gc, tc, csc, fc, pc, qc, hgc, htc, hvc, hdc, _, _⟩, _⟩, _⟩, _⟩ := h
  obtain rfl := Option.some.inj (g0.symm.trans hgc)
  obtain rfl := Option.some.inj (g0Type.symm.trans htc)
  rw [space_eq] at hdc
  unfold Lib.TabIs
  rw [hvc, ← Lib.cells_of_tab Tryd.underlying131 Tryd.underlying5 cells5 cells131 hdc]
/-- A world that meets the condition: the settled one with two blocks more (the white spaces' ranges, their table), the four variables holding what their initialisers lay. -/
noncomputable def laidWorld (os : Os) : World :=
  let N := (World.settled Tryd.prog os).heap.size
  let w0 := World.holding Tryd.prog os ⟨#[.cells (Lib.whiteT.map fun (z : Nat) => Value.int .u16 (z : Int)).toArray 156, .cells #[.slice (some ⟨N, 0, none⟩) 7 7, .slice none 0 0, .int .i64 2] 154], #[], []⟩
  let put (h : Array Obj) (g : Nat) (cs : Array Value) : Array Obj := h.modify g fun
    | .cells _ t frozen => .cells cs t frozen
    | o => o
  let h1 := put w0.heap 0 (Lib.asciiSpaceTab.map fun z => Value.int .u8 z).toArray
  let h2 := put h1 3 (Lib.firstTab.map fun z => Value.int .u8 z).toArray
  let h3 := put h2 4 ((List.range 16).flatMap fun i => [Value.int .u8 (Lib.accLo i), Value.int .u8 (Lib.accHi i)]).toArray
  let h4 := put h3 1 #[.pointer (some ⟨N + 1, 0, none⟩)]
  { w0 with heap := h4 }
theorem laid_met (os : Os) (args : Array Value) : laidMet Tryd.prog laidList ((laidWorld os).forCall (fun _ _ => 0) ⟨#[], args, []⟩).memory :=
  laidMet_of_run' 8 (by kernel_rfl) (by kernel_rfl)
end Go.Proofs.YtlaohefgofmfdaaDoor
