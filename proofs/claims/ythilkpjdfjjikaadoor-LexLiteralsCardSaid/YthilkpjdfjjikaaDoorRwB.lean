/-
  What all rows of this seat share: the listed tables, a world that holds them, what a walk is given.
-/
import Derived.Test.YthilkpjdfjjikaaDoorRows
import Derived.Test.YthilkpjdfjjikaaDoorNam
import Derived.Test.YthilkpjdfjjikaaDoorShelf
import Derived.Lib.LaidIn
import Derived.Lib.LaidU8T
import Derived.Lib.LaidTab
import Derived.ChangeSame
import Derived.ChangeVars
import Derived.JoinedOf
import Derived.RowKit
import Derived.RowKitTokens
import Derived.LaidLaws
import Derived.LaidHandle
import Derived.Stop.Joined
import Derived.Deep.DeepHandedRow
import Derived.ProofKit
import Derived.OpenShut
import Derived.ShutString
import Derived.ChangeOld
import Derived.Below
namespace Go.Proofs.YthilkpjdfjjikaaDoor
open Go.ChangeShapes Go.WideShapes Go.ChangeAt Go.RowKit Go.Shelf
open Go.ChangeMaps (open_string shut_string)

theorem ownB : ownKnob Tryd.prog.godebug = Option.none := by kernel_rfl
theorem laidOutAll : laidOutB Tryd.prog = true := by kernel_rfl
def laidL : List (String × DataW Unit) := [("unicode/utf8.acceptRanges", Rows.laid_unicode_utf8_acceptRanges), ("unicode.White_Space", Rows.laid_unicode_White_Space), ("strings.asciiSpace", Rows.laid_strings_asciiSpace), ("unicode/utf8.first", Rows.laid_unicode_utf8_first)]
theorem first_eq : Rows.laid_unicode_utf8_first = Lib.firstData := by kernel_rfl
theorem accept_eq : (Rows.laid_unicode_utf8_acceptRanges : DataW Unit) = Lib.acceptData := by kernel_rfl
theorem white_eq : (Rows.laid_unicode_White_Space : DataW Unit) = Lib.whiteData := by kernel_rfl
theorem space_eq : (Rows.laid_strings_asciiSpace : DataW Unit) = Lib.tabData .u8 Lib.asciiSpaceTab := by kernel_rfl
theorem laidL_eq : laidL = [("unicode/utf8.acceptRanges", Lib.acceptData), ("unicode.White_Space", Lib.whiteData), ("strings.asciiSpace", Lib.tabData .u8 Lib.asciiSpaceTab), ("unicode/utf8.first", Lib.firstData)] := by
  unfold laidL; rw [first_eq, accept_eq, white_eq, space_eq]
/-- The witness: the settled world with two blocks more (the blanks' ranges, their table), the four variables holding what their initialisers lay. -/
noncomputable def laidWorld (os : Os) : World :=
  let N := (World.settled Tryd.prog os).heap.size
  let w0 := World.holding Tryd.prog os ⟨#[.cells (Lib.whiteT.map fun (z : Nat) => Value.int .u16 (z : Int)).toArray 128, .cells #[.slice (some ⟨N, 0, Option.none⟩) 7 7, .slice Option.none 0 0, .int .i64 2] 125], #[], []⟩
  let put (h : Array Obj) (g : Nat) (cs : Array Value) : Array Obj := h.modify g fun
    | .cells _ t frozen => .cells cs t frozen
    | o => o
  let h1 := put w0.heap 0 (Lib.firstTab.map fun z => Value.int .u8 z).toArray
  let h2 := put h1 1 ((List.range 16).flatMap fun i => [Value.int .u8 (Lib.accLo i), Value.int .u8 (Lib.accHi i)]).toArray
  let h3 := put h2 3 (Lib.asciiSpaceTab.map fun z => Value.int .u8 z).toArray
  let h4 := put h3 4 #[.pointer (some ⟨N + 1, 0, Option.none⟩)]
  { w0 with heap := h4 }
theorem laid_met (os : Os) (args : Array Value) : laidMetH Tryd.prog laidL ((laidWorld os).forCall (fun _ _ => 0) ⟨#[], args, []⟩).memory := by
  rw [laidL_eq]
  exact (LaidIn.of_run (l := [("unicode/utf8.acceptRanges", Lib.acceptData), ("unicode.White_Space", Lib.whiteData), ("strings.asciiSpace", Lib.tabData .u8 Lib.asciiSpaceTab), ("unicode/utf8.first", Lib.firstData)]) [1, 4, 3, 0, (World.settled Tryd.prog default).heap.size, (World.settled Tryd.prog default).heap.size + 1] 10 (by kernel_rfl) (by kernel_rfl) (by kernel_rfl) (by kernel_rfl)).met
/-- What the conditions give a walk. -/
theorem tabs_of {W : World} (hL : laidMetH Tryd.prog laidL W) (hs : W.ShapedOpen Tryd.prog) : Tabs W := by
  rw [laidL_eq] at hL
  refine ⟨utf8Tabs_of_readsT (U8Types.of260 Tryd.lays260) ⟨by kernel_rfl, by kernel_rfl, by kernel_rfl, by kernel_rfl, by kernel_rfl, by kernel_rfl, by kernel_rfl⟩ (Lib.laidMet.reads hL (.tail _ (.tail _ (.tail _ (.head _))))) (Lib.laidMet.reads hL (.head _)), ?_, ?_⟩
  · obtain ⟨g, t, cs, fuel, q, h1, h2, h3, h4⟩ := Lib.laidMet.reads hL (n := "strings.asciiSpace") (d := Lib.tabData .u8 Lib.asciiSpaceTab) (.tail _ (.tail _ (.head _)))
    obtain rfl : g = 3 := Option.some.inj (h1.symm.trans asp)
    obtain rfl : t = 109 := Option.some.inj (h2.symm.trans (show (Tryd.prog.globals[3]?).map (·.type) = some 109 by kernel_rfl))
    unfold Lib.TabIs
    rw [h3, ← Lib.cells_of_tab (n := 256) (e := 5) Tryd.underlying109 Tryd.underlying5 (by kernel_rfl) (by kernel_rfl) h4]
  · exact Go.Proofs.cell_of_shapedOpen_int (zero := #[.int .i64 0]) (t := 3) hs (of_decide_eq_true (by kernel_rfl)) (by kernel_rfl) rfl (by kernel_rfl) (by kernel_rfl) Tryd.underlying3
end Go.Proofs.YthilkpjdfjjikaaDoor
