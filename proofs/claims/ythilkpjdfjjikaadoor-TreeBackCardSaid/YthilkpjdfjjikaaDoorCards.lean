/-
  DERIVED. GIVEN WITH THE SEED: THE CARDS: each row of YthilkpjdfjjikaaDoorRows.lean that lists a variable, with what it lists TIED to the program's text (the seventh form; the later family's looks); each row that meets fmt, with fmt's text TOLD by the authors' own Lean function (tested against real Go, not proved from fmt's source: count such statements apart). THE CARD IS WHAT COUNTS. Prove the row's statement (the work); the ties are given (YthilkpjdfjjikaaDoorTie.lean); close each card by the builder's one call (the guide's Derived/Test/ToyasCard.lean, 'card_holds'). Laid BY PROGRAM, IN A SANDBOX (cutbox-door.mjs). By AI agents, Wed Nov 11 2026. No macro, syntax, notation, axiom, sorry.
-/
import Derived.Test.YthilkpjdfjjikaaDoorRows
import GoSem.ClaimSeven
namespace Go.Proofs.YthilkpjdfjjikaaDoor
namespace Rows

/-- THE TIED CARD OF 'broadsheetlaw17.LexLiterals'. -/
def lexLiteralsCard : Claim7 := { stood := { row := lexLiteralsRow, standIns := [], harness := (true, "b85a449f94dc4c3824a2d79551a66447400fe4069bb2fc6932f1c64a9b88a3b1"), looks := true }, kinds := [], alts := [], laidByText := true, laidKinds := [.data, .listed, .data, .pinned], laidTests := true, laidLooks := .later }
def LexLiteralsCardSaid : Prop := Claim7.holds Tryd.pinned (.plain (OpenSpec.ofChange lexLiteralsSpec)) lexLiteralsCard

/-- THE TIED CARD OF 'broadsheetlaw17.LexWhole'. -/
def lexWholeCard : Claim7 := { stood := { row := lexWholeRow, standIns := [], harness := (true, "b85a449f94dc4c3824a2d79551a66447400fe4069bb2fc6932f1c64a9b88a3b1"), looks := true }, kinds := [], alts := [], laidByText := true, laidKinds := [.data, .listed, .data, .pinned], laidTests := true, laidLooks := .later }
def LexWholeCardSaid : Prop := Claim7.holds Tryd.pinned (.plain (OpenSpec.ofChange lexWholeSpec)) lexWholeCard

/-- THE TIED CARD OF 'broadsheetlaw17.LexPlain'. -/
def lexPlainCard : Claim7 := { stood := { row := lexPlainRow, standIns := [], harness := (true, "b85a449f94dc4c3824a2d79551a66447400fe4069bb2fc6932f1c64a9b88a3b1"), looks := true }, kinds := [], alts := [], laidByText := true, laidKinds := [.data, .listed, .data, .pinned], laidTests := true, laidLooks := .later }
def LexPlainCardSaid : Prop := Claim7.holds Tryd.pinned (.plain (OpenSpec.ofChange lexPlainSpec)) lexPlainCard

/-- THE TIED CARD OF 'broadsheetlaw18.TreeParses'. -/
def treeParsesCard : Claim7 := { stood := { row := treeParsesRow, standIns := [], harness := (true, "b85a449f94dc4c3824a2d79551a66447400fe4069bb2fc6932f1c64a9b88a3b1"), looks := true }, kinds := [], alts := [], laidByText := true, laidKinds := [.data, .listed, .data, .pinned], laidTests := true, laidLooks := .later }
def TreeParsesCardSaid : Prop := Claim7.holds Tryd.pinned (.plain (OpenSpec.ofChange treeParsesSpec)) treeParsesCard

/-- THE TIED CARD OF 'broadsheetlaw18.TreeNests'. -/
def treeNestsCard : Claim7 := { stood := { row := treeNestsRow, standIns := [], harness := (true, "b85a449f94dc4c3824a2d79551a66447400fe4069bb2fc6932f1c64a9b88a3b1"), looks := true }, kinds := [], alts := [], laidByText := true, laidKinds := [.data, .listed, .data, .pinned], laidTests := true, laidLooks := .later }
def TreeNestsCardSaid : Prop := Claim7.holds Tryd.pinned (.plain (OpenSpec.ofChange treeNestsSpec)) treeNestsCard

/-- THE TIED CARD OF 'broadsheetlaw18.TreeDeep'. -/
def treeDeepCard : Claim7 := { stood := { row := treeDeepRow, standIns := [], harness := (true, "b85a449f94dc4c3824a2d79551a66447400fe4069bb2fc6932f1c64a9b88a3b1"), looks := true }, kinds := [], alts := [], laidByText := true, laidKinds := [.data, .listed, .data, .pinned], laidTests := true, laidLooks := .later }
def TreeDeepCardSaid : Prop := Claim7.holds Tryd.pinned (.plain (OpenSpec.ofChange treeDeepSpec)) treeDeepCard

/-- THE TIED CARD OF 'broadsheetlaw18.TreeJoins'. -/
def treeJoinsCard : Claim7 := { stood := { row := treeJoinsRow, standIns := [], harness := (true, "b85a449f94dc4c3824a2d79551a66447400fe4069bb2fc6932f1c64a9b88a3b1"), looks := true }, kinds := [], alts := [], laidByText := true, laidKinds := [.data, .listed, .data, .pinned], laidTests := true, laidLooks := .later }
def TreeJoinsCardSaid : Prop := Claim7.holds Tryd.pinned (.plain (OpenSpec.ofChange treeJoinsSpec)) treeJoinsCard

/-- THE TIED CARD OF 'broadsheetlaw18.TreeBack'. -/
def treeBackCard : Claim7 := { stood := { row := treeBackRow, standIns := [], harness := (true, "b85a449f94dc4c3824a2d79551a66447400fe4069bb2fc6932f1c64a9b88a3b1"), looks := true }, kinds := [], alts := [], laidByText := true, laidKinds := [.data, .listed, .data, .pinned], laidTests := true, laidLooks := .later }
def TreeBackCardSaid : Prop := Claim7.holds Tryd.pinned (.plain (OpenSpec.ofChange treeBackSpec)) treeBackCard

/-- THE SECOND FORM's CARD OF 'broadsheetlaw17.LexLiterals'. -/
def lexLiteralsUptoCard : Claim7 := { stood := { row := lexLiteralsUptoRow, standIns := [], harness := (true, "b85a449f94dc4c3824a2d79551a66447400fe4069bb2fc6932f1c64a9b88a3b1"), looks := true }, kinds := [], alts := [], laidByText := true, laidKinds := [.data, .listed, .data, .pinned], laidTests := true, laidLooks := .later }
def LexLiteralsUptoCardSaid : Prop := Claim7.holds Tryd.pinned (.plain (OpenSpec.upto lexLiteralsSpec)) lexLiteralsUptoCard

/-- THE SECOND FORM's CARD OF 'broadsheetlaw17.LexWhole'. -/
def lexWholeUptoCard : Claim7 := { stood := { row := lexWholeUptoRow, standIns := [], harness := (true, "b85a449f94dc4c3824a2d79551a66447400fe4069bb2fc6932f1c64a9b88a3b1"), looks := true }, kinds := [], alts := [], laidByText := true, laidKinds := [.data, .listed, .data, .pinned], laidTests := true, laidLooks := .later }
def LexWholeUptoCardSaid : Prop := Claim7.holds Tryd.pinned (.plain (OpenSpec.upto lexWholeSpec)) lexWholeUptoCard

/-- THE SECOND FORM's CARD OF 'broadsheetlaw17.LexPlain'. -/
def lexPlainUptoCard : Claim7 := { stood := { row := lexPlainUptoRow, standIns := [], harness := (true, "b85a449f94dc4c3824a2d79551a66447400fe4069bb2fc6932f1c64a9b88a3b1"), looks := true }, kinds := [], alts := [], laidByText := true, laidKinds := [.data, .listed, .data, .pinned], laidTests := true, laidLooks := .later }
def LexPlainUptoCardSaid : Prop := Claim7.holds Tryd.pinned (.plain (OpenSpec.upto lexPlainSpec)) lexPlainUptoCard

/-- THE SECOND FORM's CARD OF 'broadsheetlaw18.TreeParses'. -/
def treeParsesUptoCard : Claim7 := { stood := { row := treeParsesUptoRow, standIns := [], harness := (true, "b85a449f94dc4c3824a2d79551a66447400fe4069bb2fc6932f1c64a9b88a3b1"), looks := true }, kinds := [], alts := [], laidByText := true, laidKinds := [.data, .listed, .data, .pinned], laidTests := true, laidLooks := .later }
def TreeParsesUptoCardSaid : Prop := Claim7.holds Tryd.pinned (.plain (OpenSpec.upto treeParsesSpec)) treeParsesUptoCard

/-- THE SECOND FORM's CARD OF 'broadsheetlaw18.TreeNests'. -/
def treeNestsUptoCard : Claim7 := { stood := { row := treeNestsUptoRow, standIns := [], harness := (true, "b85a449f94dc4c3824a2d79551a66447400fe4069bb2fc6932f1c64a9b88a3b1"), looks := true }, kinds := [], alts := [], laidByText := true, laidKinds := [.data, .listed, .data, .pinned], laidTests := true, laidLooks := .later }
def TreeNestsUptoCardSaid : Prop := Claim7.holds Tryd.pinned (.plain (OpenSpec.upto treeNestsSpec)) treeNestsUptoCard

/-- THE SECOND FORM's CARD OF 'broadsheetlaw18.TreeDeep'. -/
def treeDeepUptoCard : Claim7 := { stood := { row := treeDeepUptoRow, standIns := [], harness := (true, "b85a449f94dc4c3824a2d79551a66447400fe4069bb2fc6932f1c64a9b88a3b1"), looks := true }, kinds := [], alts := [], laidByText := true, laidKinds := [.data, .listed, .data, .pinned], laidTests := true, laidLooks := .later }
def TreeDeepUptoCardSaid : Prop := Claim7.holds Tryd.pinned (.plain (OpenSpec.upto treeDeepSpec)) treeDeepUptoCard

/-- THE SECOND FORM's CARD OF 'broadsheetlaw18.TreeJoins'. -/
def treeJoinsUptoCard : Claim7 := { stood := { row := treeJoinsUptoRow, standIns := [], harness := (true, "b85a449f94dc4c3824a2d79551a66447400fe4069bb2fc6932f1c64a9b88a3b1"), looks := true }, kinds := [], alts := [], laidByText := true, laidKinds := [.data, .listed, .data, .pinned], laidTests := true, laidLooks := .later }
def TreeJoinsUptoCardSaid : Prop := Claim7.holds Tryd.pinned (.plain (OpenSpec.upto treeJoinsSpec)) treeJoinsUptoCard

/-- THE SECOND FORM's CARD OF 'broadsheetlaw18.TreeBack'. -/
def treeBackUptoCard : Claim7 := { stood := { row := treeBackUptoRow, standIns := [], harness := (true, "b85a449f94dc4c3824a2d79551a66447400fe4069bb2fc6932f1c64a9b88a3b1"), looks := true }, kinds := [], alts := [], laidByText := true, laidKinds := [.data, .listed, .data, .pinned], laidTests := true, laidLooks := .later }
def TreeBackUptoCardSaid : Prop := Claim7.holds Tryd.pinned (.plain (OpenSpec.upto treeBackSpec)) treeBackUptoCard
end Rows
end Go.Proofs.YthilkpjdfjjikaaDoor
