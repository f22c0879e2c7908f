/-
  What all rows of this seat share: the listed variables, a world that holds them, what a walk is given.
-/
import Derived.Test.YtcpkkaimingnlaaGreatDoorRows
import Derived.Test.YtcpkkaimingnlaaGreatDoorLpo
import Derived.Lib.LaidIn
import Derived.Lib.LaidU8T
import Derived.Lib.LaidTab
import Derived.Lib.LaidCaseMet
import Derived.ChangeSame
import Derived.ChangeVars
import Derived.JoinedOf
import Derived.RowKit
import Derived.RowKitTokens
import Derived.LaidLaws
import Derived.LaidHandle
import Derived.Stop.Joined
import Derived.Deep.DeepHandedRow
import Derived.ProofKit
import Derived.OpenShut
import Derived.ShutString
import Derived.ChangeOld
import Derived.Below
namespace Go.Proofs.YtcpkkaimingnlaaGreatDoor
open Go.ChangeShapes Go.WideShapes Go.ChangeAt Go.RowKit Go.Shelf
open Go.ChangeMaps (open_string shut_string)

theorem ownB : ownKnob Tryz.prog.godebug = Option.none := by kernel_rfl
theorem laidOutAll : laidOutB Tryz.prog = true := by kernel_rfl
def laidL : List (String × DataW Unit) := [("math/bits.deBruijn32tab", Rows.laid_math_bits_deBruijn32tab), ("math/bits.deBruijn64tab", Rows.laid_math_bits_deBruijn64tab), ("internal/strconv.uint64pow10", Rows.laid_internal_strconv_uint64pow10), ("unicode/utf8.acceptRanges", Rows.laid_unicode_utf8_acceptRanges), ("strconv.ErrRange", Rows.laid_strconv_ErrRange), ("strconv.ErrSyntax", Rows.laid_strconv_ErrSyntax), ("unicode.CaseRanges", Rows.laid_unicode_CaseRanges), ("unicode/utf8.first", Rows.laid_unicode_utf8_first)]
theorem first_eq : Rows.laid_unicode_utf8_first = Lib.firstData := by kernel_rfl
theorem accept_eq : (Rows.laid_unicode_utf8_acceptRanges : DataW Unit) = Lib.acceptData := by kernel_rfl
theorem case_eq : Rows.laid_unicode_CaseRanges = Lib.caseData := by kernel_rfl
theorem pow_eq : (Rows.laid_internal_strconv_uint64pow10 : DataW Unit) = Lib.tabData .u64 Lib.pow10Tab := by kernel_rfl
theorem laidL_eq : laidL = [("math/bits.deBruijn32tab", Rows.laid_math_bits_deBruijn32tab), ("math/bits.deBruijn64tab", Rows.laid_math_bits_deBruijn64tab), ("internal/strconv.uint64pow10", Lib.tabData .u64 Lib.pow10Tab), ("unicode/utf8.acceptRanges", Lib.acceptData), ("strconv.ErrRange", Rows.laid_strconv_ErrRange), ("strconv.ErrSyntax", Rows.laid_strconv_ErrSyntax), ("unicode.CaseRanges", Lib.caseData), ("unicode/utf8.first", Lib.firstData)] := by
  unfold laidL; rw [first_eq, accept_eq, case_eq, pow_eq]
/-- A listed table of integers as cells. -/
def cellsOfData : DataW Unit → Array Value
  | .agg l => (l.map fun | .lit (.int k z) => Value.int k z | _ => Value.int .u8 0).toArray
  | _ => #[]
def outOfRangeB : Bs := [118, 97, 108, 117, 101, 32, 111, 117, 116, 32, 111, 102, 32, 114, 97, 110, 103, 101]
def invalidSyntaxB : Bs := [105, 110, 118, 97, 108, 105, 100, 32, 115, 121, 110, 116, 97, 120]
/-- The witness: the settled world with three blocks more (the case ranges, the two errors' structs), the variables holding what their initialisers lay. -/
noncomputable def laidWorld (os : Os) : World :=
  let N := (World.settled Tryz.prog os).heap.size
  let w0 := World.holding Tryz.prog os ⟨#[.cells Go.Lib.caseCells5 167, .cells #[.string ⟨outOfRangeB.toArray⟩] 170, .cells #[.string ⟨invalidSyntaxB.toArray⟩] 170], #[], []⟩
  let put (h : Array Obj) (g : Nat) (cs : Array Value) : Array Obj := h.modify g fun
    | .cells _ t frozen => .cells cs t frozen
    | o => o
  let h1 := put w0.heap 2 (Lib.firstTab.map fun z => Value.int .u8 z).toArray
  let h2 := put h1 3 ((List.range 16).flatMap fun i => [Value.int .u8 (Lib.accLo i), Value.int .u8 (Lib.accHi i)]).toArray
  let h3 := put h2 5 #[.iface 168 (.pointer (some ⟨N + 1, 0, Option.none⟩))]
  let h4 := put h3 4 #[.iface 168 (.pointer (some ⟨N + 2, 0, Option.none⟩))]
  let h5 := put h4 1 #[.slice (some ⟨N, 0, Option.none⟩) Lib.caseA.size Lib.caseA.size]
  let h6 := put h5 6 (Lib.pow10Tab.map fun z => Value.int .u64 z).toArray
  let h7 := put h6 7 (cellsOfData Rows.laid_math_bits_deBruijn32tab)
  let h8 := put h7 8 (cellsOfData Rows.laid_math_bits_deBruijn64tab)
  { w0 with heap := h8 }
noncomputable def N0 : Nat := (World.settled Tryz.prog default).heap.size
theorem piece0 (os : Os) (args : Array Value) : LaidIn Tryz.prog ((laidWorld os).forCall (fun _ _ => 0) ⟨#[], args, []⟩).memory [("math/bits.deBruijn32tab", Rows.laid_math_bits_deBruijn32tab), ("math/bits.deBruijn64tab", Rows.laid_math_bits_deBruijn64tab), ("internal/strconv.uint64pow10", Lib.tabData .u64 Lib.pow10Tab), ("unicode/utf8.acceptRanges", Lib.acceptData), ("strconv.ErrRange", Rows.laid_strconv_ErrRange), ("strconv.ErrSyntax", Rows.laid_strconv_ErrSyntax)] [7, 8, 6, 3, 5, N0 + 1, 4, N0 + 2] :=
  LaidIn.of_run [7, 8, 6, 3, 5, N0 + 1, 4, N0 + 2] 10 (by kernel_rfl) (by kernel_rfl) (by kernel_rfl) (by kernel_rfl)
theorem piece7 (os : Os) (args : Array Value) : LaidIn Tryz.prog ((laidWorld os).forCall (fun _ _ => 0) ⟨#[], args, []⟩).memory [("unicode/utf8.first", Lib.firstData)] [2] :=
  LaidIn.of_run [2] 10 (by kernel_rfl) (by kernel_rfl) (by kernel_rfl) (by kernel_rfl)
end Go.Proofs.YtcpkkaimingnlaaGreatDoor
