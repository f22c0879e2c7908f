/-
  NARROWER THAN 'FOR EVERY INPUT', by the rows' own cells (each row's printed sentence says how): UtfValid: laid · UtfPoints: laid · UtfSqueezes: laid · UtfCuts: laid · UtfRepairs: laid · UtfJoins: laid · UtfMakes: laid · UtfBack: laid.
  DERIVED. THE GIVEN ROWS OF THIS SEAT. 8 by the template 'for every input the law returns true; each argument reads behind the call as it read before'; 0 by the template 'total and deterministic' (their statements: YtpmndnijejnhnaaDoorTotals.lean).
  GIVEN WITH THE SEED: the statements are not yours to turn. If you find one false, say at which input.
  Laid BY PROGRAM, IN A SANDBOX (cutbox-rows.mjs): the forced cells as the released guide's own fill.sh prints them over the translation 17ba769acd646146… (all of the seat's roots in one cut). By AI agents, Wed Nov 11 2026. No macro, syntax, notation, axiom, sorry.
-/
import Derived.Test.YtpmndnijejnhnaaDoorChecked
import GoSem.PinnedTables
import GoSem.Claim
import GoSem.ClaimJoined
import GoSem.ClaimMapViews
import Derived.JoinedTies
import Derived.KernelRfl
namespace Go.Proofs.YtpmndnijejnhnaaDoor
/- THE CELL 'sum', in the pinned program and in every row, IS THE sha256 OF THE DUMP (.gsa) THAT YtpmndnijejnhnaaDoorProg.lean LOADS. Nothing in Lean hashes anything: it is a label: what it is worth is what the hold of that sum in a sandbox is worth. -/
noncomputable def Tryd.pinned : Pinned := { name := "ytpmndnijejnhnaadoor", sum := "17ba769acd646146577d688242404bdd8390fb35716ae1be33d21b50b44f7948", checked := Tryd.checked }
namespace Rows
def none {H : Type} : Left H := { results := [], args := [] }

/- WHAT THE LISTED PACKAGE-LEVEL VARIABLES READ AS WHEN THE CALL BEGINS. Each datum BY PROGRAM (the guide's laid-datum.mjs) off the statement by which the dump's own 'gosem.cut.vars' lays the variable. In a bare row this is a premise. The card (YtpmndnijejnhnaaDoorCards.lean) ties it to the program's text. -/
def laid_unicode_utf8_acceptRanges {H : Type} : DataW H := .agg [.agg [.lit (.int .u8 128), .lit (.int .u8 191)], .agg [.lit (.int .u8 160), .lit (.int .u8 191)], .agg [.lit (.int .u8 128), .lit (.int .u8 159)], .agg [.lit (.int .u8 144), .lit (.int .u8 191)], .agg [.lit (.int .u8 128), .lit (.int .u8 143)], .agg [.lit (.int .u8 0), .lit (.int .u8 0)], .agg [.lit (.int .u8 0), .lit (.int .u8 0)], .agg [.lit (.int .u8 0), .lit (.int .u8 0)], .agg [.lit (.int .u8 0), .lit (.int .u8 0)], .agg [.lit (.int .u8 0), .lit (.int .u8 0)], .agg [.lit (.int .u8 0), .lit (.int .u8 0)], .agg [.lit (.int .u8 0), .lit (.int .u8 0)], .agg [.lit (.int .u8 0), .lit (.int .u8 0)], .agg [.lit (.int .u8 0), .lit (.int .u8 0)], .agg [.lit (.int .u8 0), .lit (.int .u8 0)], .agg [.lit (.int .u8 0), .lit (.int .u8 0)]]
/-- One of Go's own tables, pinned by name: the form's constant. -/
def laid_unicode_utf8_first : DataW Unit := Go.Pinned.utf8First

/-- 'broadsheetlaw01.UtfValid': WHATEVER THE INPUT: true; the input reads as it did. -/
def utfValidSpec : ChangeSpec := { name := "utfValid", fn := fun _ => fun
  | [d] => { results := [.lit (.bool true)], args := [d] }
  | _ => none }
def utfValidRow : OpenClaim := { program := "ytpmndnijejnhnaadoor", sum := "17ba769acd646146577d688242404bdd8390fb35716ae1be33d21b50b44f7948", func := "broadsheet/broadsheetlaw01.UtfValid", spec := "utfValid", inPlace := ["internal/abi.NoEscape", "internal/bytealg.IndexByteString", "internal/bytealg.IndexString", "internal/bytealg.MakeNoZero"], unfollowed := true, recurses := true, named := ["unicode/utf8.first", "unicode/utf8.acceptRanges", "internal/bytealg.MaxLen"], apart := false, laid := [("unicode/utf8.acceptRanges", laid_unicode_utf8_acceptRanges), ("unicode/utf8.first", laid_unicode_utf8_first)] }
def UtfValidSaid : Prop := utfValidRow.holds Tryd.pinned (OpenSpec.ofChange utfValidSpec)

/-- ITS FALSE NEIGHBOUR: 'it returns false'. Refute it at one input. -/
def utfValidWrong : ChangeSpec := { name := "utfValid", fn := fun _ => fun
  | [d] => { results := [.lit (.bool false)], args := [d] }
  | _ => none }
def UtfValidWrongFalsely : Prop := utfValidRow.holds Tryd.pinned (OpenSpec.ofChange utfValidWrong)

/-- 'broadsheetlaw01.UtfPoints': WHATEVER THE INPUT: true; the input reads as it did. -/
def utfPointsSpec : ChangeSpec := { name := "utfPoints", fn := fun _ => fun
  | [d] => { results := [.lit (.bool true)], args := [d] }
  | _ => none }
def utfPointsRow : OpenClaim := { program := "ytpmndnijejnhnaadoor", sum := "17ba769acd646146577d688242404bdd8390fb35716ae1be33d21b50b44f7948", func := "broadsheet/broadsheetlaw01.UtfPoints", spec := "utfPoints", inPlace := ["internal/abi.NoEscape", "internal/bytealg.IndexByteString", "internal/bytealg.IndexString", "internal/bytealg.MakeNoZero"], unfollowed := true, recurses := true, named := ["unicode/utf8.first", "unicode/utf8.acceptRanges", "internal/bytealg.MaxLen"], apart := false, laid := [("unicode/utf8.acceptRanges", laid_unicode_utf8_acceptRanges), ("unicode/utf8.first", laid_unicode_utf8_first)] }
def UtfPointsSaid : Prop := utfPointsRow.holds Tryd.pinned (OpenSpec.ofChange utfPointsSpec)

/-- ITS FALSE NEIGHBOUR: 'it returns false'. Refute it at one input. -/
def utfPointsWrong : ChangeSpec := { name := "utfPoints", fn := fun _ => fun
  | [d] => { results := [.lit (.bool false)], args := [d] }
  | _ => none }
def UtfPointsWrongFalsely : Prop := utfPointsRow.holds Tryd.pinned (OpenSpec.ofChange utfPointsWrong)

/-- 'broadsheetlaw01.UtfSqueezes': WHATEVER THE INPUT: true; the input reads as it did. -/
def utfSqueezesSpec : ChangeSpec := { name := "utfSqueezes", fn := fun _ => fun
  | [d] => { results := [.lit (.bool true)], args := [d] }
  | _ => none }
def utfSqueezesRow : OpenClaim := { program := "ytpmndnijejnhnaadoor", sum := "17ba769acd646146577d688242404bdd8390fb35716ae1be33d21b50b44f7948", func := "broadsheet/broadsheetlaw01.UtfSqueezes", spec := "utfSqueezes", inPlace := ["internal/abi.NoEscape", "internal/bytealg.IndexByteString", "internal/bytealg.IndexString", "internal/bytealg.MakeNoZero"], unfollowed := true, recurses := true, named := ["unicode/utf8.first", "unicode/utf8.acceptRanges", "internal/bytealg.MaxLen"], apart := false, laid := [("unicode/utf8.acceptRanges", laid_unicode_utf8_acceptRanges), ("unicode/utf8.first", laid_unicode_utf8_first)] }
def UtfSqueezesSaid : Prop := utfSqueezesRow.holds Tryd.pinned (OpenSpec.ofChange utfSqueezesSpec)

/-- ITS FALSE NEIGHBOUR: 'it returns false'. Refute it at one input. -/
def utfSqueezesWrong : ChangeSpec := { name := "utfSqueezes", fn := fun _ => fun
  | [d] => { results := [.lit (.bool false)], args := [d] }
  | _ => none }
def UtfSqueezesWrongFalsely : Prop := utfSqueezesRow.holds Tryd.pinned (OpenSpec.ofChange utfSqueezesWrong)

/-- 'broadsheetlaw01.UtfCuts': WHATEVER THE INPUT: true; the input reads as it did. -/
def utfCutsSpec : ChangeSpec := { name := "utfCuts", fn := fun _ => fun
  | [d1, d2] => { results := [.lit (.bool true)], args := [d1, d2] }
  | _ => none }
def utfCutsRow : OpenClaim := { program := "ytpmndnijejnhnaadoor", sum := "17ba769acd646146577d688242404bdd8390fb35716ae1be33d21b50b44f7948", func := "broadsheet/broadsheetlaw01.UtfCuts", spec := "utfCuts", inPlace := ["internal/abi.NoEscape", "internal/bytealg.IndexByteString", "internal/bytealg.IndexString", "internal/bytealg.MakeNoZero"], unfollowed := true, recurses := true, named := ["unicode/utf8.first", "unicode/utf8.acceptRanges", "internal/bytealg.MaxLen"], apart := false, laid := [("unicode/utf8.acceptRanges", laid_unicode_utf8_acceptRanges), ("unicode/utf8.first", laid_unicode_utf8_first)] }
def UtfCutsSaid : Prop := utfCutsRow.holds Tryd.pinned (OpenSpec.ofChange utfCutsSpec)

/-- ITS FALSE NEIGHBOUR: 'it returns false'. Refute it at one input. -/
def utfCutsWrong : ChangeSpec := { name := "utfCuts", fn := fun _ => fun
  | [d1, d2] => { results := [.lit (.bool false)], args := [d1, d2] }
  | _ => none }
def UtfCutsWrongFalsely : Prop := utfCutsRow.holds Tryd.pinned (OpenSpec.ofChange utfCutsWrong)

/-- 'broadsheetlaw01.UtfRepairs': WHATEVER THE INPUT: true; the input reads as it did. -/
def utfRepairsSpec : ChangeSpec := { name := "utfRepairs", fn := fun _ => fun
  | [d] => { results := [.lit (.bool true)], args := [d] }
  | _ => none }
def utfRepairsRow : OpenClaim := { program := "ytpmndnijejnhnaadoor", sum := "17ba769acd646146577d688242404bdd8390fb35716ae1be33d21b50b44f7948", func := "broadsheet/broadsheetlaw01.UtfRepairs", spec := "utfRepairs", inPlace := ["internal/abi.NoEscape", "internal/bytealg.IndexByteString", "internal/bytealg.IndexString", "internal/bytealg.MakeNoZero"], unfollowed := true, recurses := true, named := ["unicode/utf8.first", "unicode/utf8.acceptRanges", "internal/bytealg.MaxLen"], apart := false, laid := [("unicode/utf8.acceptRanges", laid_unicode_utf8_acceptRanges), ("unicode/utf8.first", laid_unicode_utf8_first)] }
def UtfRepairsSaid : Prop := utfRepairsRow.holds Tryd.pinned (OpenSpec.ofChange utfRepairsSpec)

/-- ITS FALSE NEIGHBOUR: 'it returns false'. Refute it at one input. -/
def utfRepairsWrong : ChangeSpec := { name := "utfRepairs", fn := fun _ => fun
  | [d] => { results := [.lit (.bool false)], args := [d] }
  | _ => none }
def UtfRepairsWrongFalsely : Prop := utfRepairsRow.holds Tryd.pinned (OpenSpec.ofChange utfRepairsWrong)

/-- 'broadsheetlaw01.UtfJoins': WHATEVER THE INPUT: true; the input reads as it did. -/
def utfJoinsSpec : ChangeSpec := { name := "utfJoins", fn := fun _ => fun
  | [d1, d2] => { results := [.lit (.bool true)], args := [d1, d2] }
  | _ => none }
def utfJoinsRow : OpenClaim := { program := "ytpmndnijejnhnaadoor", sum := "17ba769acd646146577d688242404bdd8390fb35716ae1be33d21b50b44f7948", func := "broadsheet/broadsheetlaw01.UtfJoins", spec := "utfJoins", inPlace := ["internal/abi.NoEscape", "internal/bytealg.IndexByteString", "internal/bytealg.IndexString", "internal/bytealg.MakeNoZero"], unfollowed := true, recurses := true, named := ["unicode/utf8.first", "unicode/utf8.acceptRanges", "internal/bytealg.MaxLen"], apart := false, laid := [("unicode/utf8.acceptRanges", laid_unicode_utf8_acceptRanges), ("unicode/utf8.first", laid_unicode_utf8_first)] }
def UtfJoinsSaid : Prop := utfJoinsRow.holds Tryd.pinned (OpenSpec.ofChange utfJoinsSpec)

/-- ITS FALSE NEIGHBOUR: 'it returns false'. Refute it at one input. -/
def utfJoinsWrong : ChangeSpec := { name := "utfJoins", fn := fun _ => fun
  | [d1, d2] => { results := [.lit (.bool false)], args := [d1, d2] }
  | _ => none }
def UtfJoinsWrongFalsely : Prop := utfJoinsRow.holds Tryd.pinned (OpenSpec.ofChange utfJoinsWrong)

/-- 'broadsheetlaw01.UtfMakes': WHATEVER THE INPUT: true; the input reads as it did. -/
def utfMakesSpec : ChangeSpec := { name := "utfMakes", fn := fun _ => fun
  | [d] => { results := [.lit (.bool true)], args := [d] }
  | _ => none }
def utfMakesRow : OpenClaim := { program := "ytpmndnijejnhnaadoor", sum := "17ba769acd646146577d688242404bdd8390fb35716ae1be33d21b50b44f7948", func := "broadsheet/broadsheetlaw01.UtfMakes", spec := "utfMakes", inPlace := ["internal/abi.NoEscape", "internal/bytealg.IndexByteString", "internal/bytealg.IndexString", "internal/bytealg.MakeNoZero"], unfollowed := true, recurses := true, named := ["unicode/utf8.first", "unicode/utf8.acceptRanges", "internal/bytealg.MaxLen"], apart := false, laid := [("unicode/utf8.acceptRanges", laid_unicode_utf8_acceptRanges), ("unicode/utf8.first", laid_unicode_utf8_first)] }
def UtfMakesSaid : Prop := utfMakesRow.holds Tryd.pinned (OpenSpec.ofChange utfMakesSpec)

/-- ITS FALSE NEIGHBOUR: 'it returns false'. Refute it at one input. -/
def utfMakesWrong : ChangeSpec := { name := "utfMakes", fn := fun _ => fun
  | [d] => { results := [.lit (.bool false)], args := [d] }
  | _ => none }
def UtfMakesWrongFalsely : Prop := utfMakesRow.holds Tryd.pinned (OpenSpec.ofChange utfMakesWrong)

/-- 'broadsheetlaw01.UtfBack': WHATEVER THE INPUT: true; the input reads as it did. -/
def utfBackSpec : ChangeSpec := { name := "utfBack", fn := fun _ => fun
  | [d1, d2] => { results := [.lit (.bool true)], args := [d1, d2] }
  | _ => none }
def utfBackRow : OpenClaim := { program := "ytpmndnijejnhnaadoor", sum := "17ba769acd646146577d688242404bdd8390fb35716ae1be33d21b50b44f7948", func := "broadsheet/broadsheetlaw01.UtfBack", spec := "utfBack", inPlace := ["internal/abi.NoEscape", "internal/bytealg.IndexByteString", "internal/bytealg.IndexString", "internal/bytealg.MakeNoZero"], unfollowed := true, recurses := true, named := ["unicode/utf8.first", "unicode/utf8.acceptRanges", "internal/bytealg.MaxLen"], apart := false, laid := [("unicode/utf8.acceptRanges", laid_unicode_utf8_acceptRanges), ("unicode/utf8.first", laid_unicode_utf8_first)] }
def UtfBackSaid : Prop := utfBackRow.holds Tryd.pinned (OpenSpec.ofChange utfBackSpec)

/-- ITS FALSE NEIGHBOUR: 'it returns false'. Refute it at one input. -/
def utfBackWrong : ChangeSpec := { name := "utfBack", fn := fun _ => fun
  | [d1, d2] => { results := [.lit (.bool false)], args := [d1, d2] }
  | _ => none }
def UtfBackWrongFalsely : Prop := utfBackRow.holds Tryd.pinned (OpenSpec.ofChange utfBackWrong)

/- THE SECOND FORM. 'bulk': how many values and letters a reading holds, each counted each time it is reached (what is shared counts as often as it is met; a slice's spare places count too). A statement '..UptoSaid' is the law's where the arguments, and the package variables that the reading takes, are together of bulk at most 1048576: NARROWER than '..Said'. Prove '..Said' where nothing that the law and all that it calls make is longer than what came in: it says more and counts as full. Else prove '..UptoSaid'. A law counts once. -/
mutual
def uptoBulk {H : Type} : DataW H → Nat
  | .lit (.string bytes) => bytes.length + 1
  | .lit _ => 1
  | .nil => 1
  | .ptr d => uptoBulk d + 1
  | .slice elems spare => uptoBulkAll elems + uptoBulkAll spare + 1
  | .agg parts => uptoBulkAll parts + 1
  | .iface _ d => uptoBulk d + 1
  | .map entries => uptoBulkEntries entries + 1
  | .held _ => 1
def uptoBulkAll {H : Type} : List (DataW H) → Nat
  | [] => 0
  | d :: r => uptoBulk d + uptoBulkAll r
def uptoBulkEntries {H : Type} : List (Lit × DataW H) → Nat
  | [] => 0
  | x :: r => uptoBulkEntry x + uptoBulkEntries r
def uptoBulkEntry {H : Type} : Lit × DataW H → Nat
  | (.string bytes, d) => bytes.length + uptoBulk d + 1
  | (_, d) => uptoBulk d + 1
 end
def uptoSmall : (H : Type) → List (DataW H) → Bool := fun _ ds => decide (uptoBulkAll ds ≤ 1048576)
def OpenSpec.upto (s : _root_.Go.ChangeSpec) : _root_.Go.OpenSpec := { _root_.Go.OpenSpec.ofChange s with cond := some uptoSmall }

/-- 'broadsheetlaw01.UtfValid', WHERE WHAT IT READS IS OF BULK AT MOST 1048576: true; the input reads as it did. -/
def utfValidUptoRow : OpenClaim := { program := "ytpmndnijejnhnaadoor", sum := "17ba769acd646146577d688242404bdd8390fb35716ae1be33d21b50b44f7948", func := "broadsheet/broadsheetlaw01.UtfValid", spec := "utfValid", inPlace := ["internal/abi.NoEscape", "internal/bytealg.IndexByteString", "internal/bytealg.IndexString", "internal/bytealg.MakeNoZero"], unfollowed := true, recurses := true, named := ["unicode/utf8.first", "unicode/utf8.acceptRanges", "internal/bytealg.MaxLen"], apart := false, laid := [("unicode/utf8.acceptRanges", laid_unicode_utf8_acceptRanges), ("unicode/utf8.first", laid_unicode_utf8_first)], narrowed := true }
def UtfValidUptoSaid : Prop := utfValidUptoRow.holds Tryd.pinned (OpenSpec.upto utfValidSpec)

/-- 'broadsheetlaw01.UtfPoints', WHERE WHAT IT READS IS OF BULK AT MOST 1048576: true; the input reads as it did. -/
def utfPointsUptoRow : OpenClaim := { program := "ytpmndnijejnhnaadoor", sum := "17ba769acd646146577d688242404bdd8390fb35716ae1be33d21b50b44f7948", func := "broadsheet/broadsheetlaw01.UtfPoints", spec := "utfPoints", inPlace := ["internal/abi.NoEscape", "internal/bytealg.IndexByteString", "internal/bytealg.IndexString", "internal/bytealg.MakeNoZero"], unfollowed := true, recurses := true, named := ["unicode/utf8.first", "unicode/utf8.acceptRanges", "internal/bytealg.MaxLen"], apart := false, laid := [("unicode/utf8.acceptRanges", laid_unicode_utf8_acceptRanges), ("unicode/utf8.first", laid_unicode_utf8_first)], narrowed := true }
def UtfPointsUptoSaid : Prop := utfPointsUptoRow.holds Tryd.pinned (OpenSpec.upto utfPointsSpec)

/-- 'broadsheetlaw01.UtfSqueezes', WHERE WHAT IT READS IS OF BULK AT MOST 1048576: true; the input reads as it did. -/
def utfSqueezesUptoRow : OpenClaim := { program := "ytpmndnijejnhnaadoor", sum := "17ba769acd646146577d688242404bdd8390fb35716ae1be33d21b50b44f7948", func := "broadsheet/broadsheetlaw01.UtfSqueezes", spec := "utfSqueezes", inPlace := ["internal/abi.NoEscape", "internal/bytealg.IndexByteString", "internal/bytealg.IndexString", "internal/bytealg.MakeNoZero"], unfollowed := true, recurses := true, named := ["unicode/utf8.first", "unicode/utf8.acceptRanges", "internal/bytealg.MaxLen"], apart := false, laid := [("unicode/utf8.acceptRanges", laid_unicode_utf8_acceptRanges), ("unicode/utf8.first", laid_unicode_utf8_first)], narrowed := true }
def UtfSqueezesUptoSaid : Prop := utfSqueezesUptoRow.holds Tryd.pinned (OpenSpec.upto utfSqueezesSpec)

/-- 'broadsheetlaw01.UtfCuts', WHERE WHAT IT READS IS OF BULK AT MOST 1048576: true; the input reads as it did. -/
def utfCutsUptoRow : OpenClaim := { program := "ytpmndnijejnhnaadoor", sum := "17ba769acd646146577d688242404bdd8390fb35716ae1be33d21b50b44f7948", func := "broadsheet/broadsheetlaw01.UtfCuts", spec := "utfCuts", inPlace := ["internal/abi.NoEscape", "internal/bytealg.IndexByteString", "internal/bytealg.IndexString", "internal/bytealg.MakeNoZero"], unfollowed := true, recurses := true, named := ["unicode/utf8.first", "unicode/utf8.acceptRanges", "internal/bytealg.MaxLen"], apart := false, laid := [("unicode/utf8.acceptRanges", laid_unicode_utf8_acceptRanges), ("unicode/utf8.first", laid_unicode_utf8_first)], narrowed := true }
def UtfCutsUptoSaid : Prop := utfCutsUptoRow.holds Tryd.pinned (OpenSpec.upto utfCutsSpec)

/-- 'broadsheetlaw01.UtfRepairs', WHERE WHAT IT READS IS OF BULK AT MOST 1048576: true; the input reads as it did. -/
def utfRepairsUptoRow : OpenClaim := { program := "ytpmndnijejnhnaadoor", sum := "17ba769acd646146577d688242404bdd8390fb35716ae1be33d21b50b44f7948", func := "broadsheet/broadsheetlaw01.UtfRepairs", spec := "utfRepairs", inPlace := ["internal/abi.NoEscape", "internal/bytealg.IndexByteString", "internal/bytealg.IndexString", "internal/bytealg.MakeNoZero"], unfollowed := true, recurses := true, named := ["unicode/utf8.first", "unicode/utf8.acceptRanges", "internal/bytealg.MaxLen"], apart := false, laid := [("unicode/utf8.acceptRanges", laid_unicode_utf8_acceptRanges), ("unicode/utf8.first", laid_unicode_utf8_first)], narrowed := true }
def UtfRepairsUptoSaid : Prop := utfRepairsUptoRow.holds Tryd.pinned (OpenSpec.upto utfRepairsSpec)

/-- 'broadsheetlaw01.UtfJoins', WHERE WHAT IT READS IS OF BULK AT MOST 1048576: true; the input reads as it did. -/
def utfJoinsUptoRow : OpenClaim := { program := "ytpmndnijejnhnaadoor", sum := "17ba769acd646146577d688242404bdd8390fb35716ae1be33d21b50b44f7948", func := "broadsheet/broadsheetlaw01.UtfJoins", spec := "utfJoins", inPlace := ["internal/abi.NoEscape", "internal/bytealg.IndexByteString", "internal/bytealg.IndexString", "internal/bytealg.MakeNoZero"], unfollowed := true, recurses := true, named := ["unicode/utf8.first", "unicode/utf8.acceptRanges", "internal/bytealg.MaxLen"], apart := false, laid := [("unicode/utf8.acceptRanges", laid_unicode_utf8_acceptRanges), ("unicode/utf8.first", laid_unicode_utf8_first)], narrowed := true }
def UtfJoinsUptoSaid : Prop := utfJoinsUptoRow.holds Tryd.pinned (OpenSpec.upto utfJoinsSpec)

/-- 'broadsheetlaw01.UtfMakes', WHERE WHAT IT READS IS OF BULK AT MOST 1048576: true; the input reads as it did. -/
def utfMakesUptoRow : OpenClaim := { program := "ytpmndnijejnhnaadoor", sum := "17ba769acd646146577d688242404bdd8390fb35716ae1be33d21b50b44f7948", func := "broadsheet/broadsheetlaw01.UtfMakes", spec := "utfMakes", inPlace := ["internal/abi.NoEscape", "internal/bytealg.IndexByteString", "internal/bytealg.IndexString", "internal/bytealg.MakeNoZero"], unfollowed := true, recurses := true, named := ["unicode/utf8.first", "unicode/utf8.acceptRanges", "internal/bytealg.MaxLen"], apart := false, laid := [("unicode/utf8.acceptRanges", laid_unicode_utf8_acceptRanges), ("unicode/utf8.first", laid_unicode_utf8_first)], narrowed := true }
def UtfMakesUptoSaid : Prop := utfMakesUptoRow.holds Tryd.pinned (OpenSpec.upto utfMakesSpec)

/-- 'broadsheetlaw01.UtfBack', WHERE WHAT IT READS IS OF BULK AT MOST 1048576: true; the input reads as it did. -/
def utfBackUptoRow : OpenClaim := { program := "ytpmndnijejnhnaadoor", sum := "17ba769acd646146577d688242404bdd8390fb35716ae1be33d21b50b44f7948", func := "broadsheet/broadsheetlaw01.UtfBack", spec := "utfBack", inPlace := ["internal/abi.NoEscape", "internal/bytealg.IndexByteString", "internal/bytealg.IndexString", "internal/bytealg.MakeNoZero"], unfollowed := true, recurses := true, named := ["unicode/utf8.first", "unicode/utf8.acceptRanges", "internal/bytealg.MaxLen"], apart := false, laid := [("unicode/utf8.acceptRanges", laid_unicode_utf8_acceptRanges), ("unicode/utf8.first", laid_unicode_utf8_first)], narrowed := true }
def UtfBackUptoSaid : Prop := utfBackUptoRow.holds Tryd.pinned (OpenSpec.upto utfBackSpec)

end Rows
end Go.Proofs.YtpmndnijejnhnaaDoor
