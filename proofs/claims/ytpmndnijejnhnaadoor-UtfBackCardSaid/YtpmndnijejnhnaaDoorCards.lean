/-
  DERIVED. GIVEN WITH THE SEED: THE CARDS: each row of YtpmndnijejnhnaaDoorRows.lean that lists a variable, with what it lists TIED to the program's text (the seventh form; the later family's looks); each row that meets fmt, with fmt's text TOLD by the authors' own Lean function (tested against real Go, not proved from fmt's source: count such statements apart). THE CARD IS WHAT COUNTS. Prove the row's statement (the work); the ties are given (YtpmndnijejnhnaaDoorTie.lean); close each card by the builder's one call (the guide's Derived/Test/ToyasCard.lean, 'card_holds'). Laid BY PROGRAM, IN A SANDBOX (cutbox-door.mjs). By AI agents, Wed Nov 11 2026. No macro, syntax, notation, axiom, sorry.
-/
import Derived.Test.YtpmndnijejnhnaaDoorRows
import GoSem.ClaimSeven
namespace Go.Proofs.YtpmndnijejnhnaaDoor
namespace Rows

/-- THE TIED CARD OF 'broadsheetlaw01.UtfValid'. -/
def utfValidCard : Claim7 := { stood := { row := utfValidRow, standIns := [], harness := (true, "6f0e6dc3365e41c6c8d3ca5b68855bc04f1b45643469a03987820e1b33807d06"), looks := false }, kinds := [], alts := [], laidByText := true, laidKinds := [.data, .pinned], laidTests := true, laidLooks := .later }
def UtfValidCardSaid : Prop := Claim7.holds Tryd.pinned (.plain (OpenSpec.ofChange utfValidSpec)) utfValidCard

/-- THE TIED CARD OF 'broadsheetlaw01.UtfPoints'. -/
def utfPointsCard : Claim7 := { stood := { row := utfPointsRow, standIns := [], harness := (true, "6f0e6dc3365e41c6c8d3ca5b68855bc04f1b45643469a03987820e1b33807d06"), looks := false }, kinds := [], alts := [], laidByText := true, laidKinds := [.data, .pinned], laidTests := true, laidLooks := .later }
def UtfPointsCardSaid : Prop := Claim7.holds Tryd.pinned (.plain (OpenSpec.ofChange utfPointsSpec)) utfPointsCard

/-- THE TIED CARD OF 'broadsheetlaw01.UtfSqueezes'. -/
def utfSqueezesCard : Claim7 := { stood := { row := utfSqueezesRow, standIns := [], harness := (true, "6f0e6dc3365e41c6c8d3ca5b68855bc04f1b45643469a03987820e1b33807d06"), looks := false }, kinds := [], alts := [], laidByText := true, laidKinds := [.data, .pinned], laidTests := true, laidLooks := .later }
def UtfSqueezesCardSaid : Prop := Claim7.holds Tryd.pinned (.plain (OpenSpec.ofChange utfSqueezesSpec)) utfSqueezesCard

/-- THE TIED CARD OF 'broadsheetlaw01.UtfCuts'. -/
def utfCutsCard : Claim7 := { stood := { row := utfCutsRow, standIns := [], harness := (true, "6f0e6dc3365e41c6c8d3ca5b68855bc04f1b45643469a03987820e1b33807d06"), looks := false }, kinds := [], alts := [], laidByText := true, laidKinds := [.data, .pinned], laidTests := true, laidLooks := .later }
def UtfCutsCardSaid : Prop := Claim7.holds Tryd.pinned (.plain (OpenSpec.ofChange utfCutsSpec)) utfCutsCard

/-- THE TIED CARD OF 'broadsheetlaw01.UtfRepairs'. -/
def utfRepairsCard : Claim7 := { stood := { row := utfRepairsRow, standIns := [], harness := (true, "6f0e6dc3365e41c6c8d3ca5b68855bc04f1b45643469a03987820e1b33807d06"), looks := false }, kinds := [], alts := [], laidByText := true, laidKinds := [.data, .pinned], laidTests := true, laidLooks := .later }
def UtfRepairsCardSaid : Prop := Claim7.holds Tryd.pinned (.plain (OpenSpec.ofChange utfRepairsSpec)) utfRepairsCard

/-- THE TIED CARD OF 'broadsheetlaw01.UtfJoins'. -/
def utfJoinsCard : Claim7 := { stood := { row := utfJoinsRow, standIns := [], harness := (true, "6f0e6dc3365e41c6c8d3ca5b68855bc04f1b45643469a03987820e1b33807d06"), looks := false }, kinds := [], alts := [], laidByText := true, laidKinds := [.data, .pinned], laidTests := true, laidLooks := .later }
def UtfJoinsCardSaid : Prop := Claim7.holds Tryd.pinned (.plain (OpenSpec.ofChange utfJoinsSpec)) utfJoinsCard

/-- THE TIED CARD OF 'broadsheetlaw01.UtfMakes'. -/
def utfMakesCard : Claim7 := { stood := { row := utfMakesRow, standIns := [], harness := (true, "6f0e6dc3365e41c6c8d3ca5b68855bc04f1b45643469a03987820e1b33807d06"), looks := false }, kinds := [], alts := [], laidByText := true, laidKinds := [.data, .pinned], laidTests := true, laidLooks := .later }
def UtfMakesCardSaid : Prop := Claim7.holds Tryd.pinned (.plain (OpenSpec.ofChange utfMakesSpec)) utfMakesCard

/-- THE TIED CARD OF 'broadsheetlaw01.UtfBack'. -/
def utfBackCard : Claim7 := { stood := { row := utfBackRow, standIns := [], harness := (true, "6f0e6dc3365e41c6c8d3ca5b68855bc04f1b45643469a03987820e1b33807d06"), looks := false }, kinds := [], alts := [], laidByText := true, laidKinds := [.data, .pinned], laidTests := true, laidLooks := .later }
def UtfBackCardSaid : Prop := Claim7.holds Tryd.pinned (.plain (OpenSpec.ofChange utfBackSpec)) utfBackCard

/-- THE SECOND FORM's CARD OF 'broadsheetlaw01.UtfValid'. -/
def utfValidUptoCard : Claim7 := { stood := { row := utfValidUptoRow, standIns := [], harness := (true, "6f0e6dc3365e41c6c8d3ca5b68855bc04f1b45643469a03987820e1b33807d06"), looks := false }, kinds := [], alts := [], laidByText := true, laidKinds := [.data, .pinned], laidTests := true, laidLooks := .later }
def UtfValidUptoCardSaid : Prop := Claim7.holds Tryd.pinned (.plain (OpenSpec.upto utfValidSpec)) utfValidUptoCard

/-- THE SECOND FORM's CARD OF 'broadsheetlaw01.UtfPoints'. -/
def utfPointsUptoCard : Claim7 := { stood := { row := utfPointsUptoRow, standIns := [], harness := (true, "6f0e6dc3365e41c6c8d3ca5b68855bc04f1b45643469a03987820e1b33807d06"), looks := false }, kinds := [], alts := [], laidByText := true, laidKinds := [.data, .pinned], laidTests := true, laidLooks := .later }
def UtfPointsUptoCardSaid : Prop := Claim7.holds Tryd.pinned (.plain (OpenSpec.upto utfPointsSpec)) utfPointsUptoCard

/-- THE SECOND FORM's CARD OF 'broadsheetlaw01.UtfSqueezes'. -/
def utfSqueezesUptoCard : Claim7 := { stood := { row := utfSqueezesUptoRow, standIns := [], harness := (true, "6f0e6dc3365e41c6c8d3ca5b68855bc04f1b45643469a03987820e1b33807d06"), looks := false }, kinds := [], alts := [], laidByText := true, laidKinds := [.data, .pinned], laidTests := true, laidLooks := .later }
def UtfSqueezesUptoCardSaid : Prop := Claim7.holds Tryd.pinned (.plain (OpenSpec.upto utfSqueezesSpec)) utfSqueezesUptoCard

/-- THE SECOND FORM's CARD OF 'broadsheetlaw01.UtfCuts'. -/
def utfCutsUptoCard : Claim7 := { stood := { row := utfCutsUptoRow, standIns := [], harness := (true, "6f0e6dc3365e41c6c8d3ca5b68855bc04f1b45643469a03987820e1b33807d06"), looks := false }, kinds := [], alts := [], laidByText := true, laidKinds := [.data, .pinned], laidTests := true, laidLooks := .later }
def UtfCutsUptoCardSaid : Prop := Claim7.holds Tryd.pinned (.plain (OpenSpec.upto utfCutsSpec)) utfCutsUptoCard

/-- THE SECOND FORM's CARD OF 'broadsheetlaw01.UtfRepairs'. -/
def utfRepairsUptoCard : Claim7 := { stood := { row := utfRepairsUptoRow, standIns := [], harness := (true, "6f0e6dc3365e41c6c8d3ca5b68855bc04f1b45643469a03987820e1b33807d06"), looks := false }, kinds := [], alts := [], laidByText := true, laidKinds := [.data, .pinned], laidTests := true, laidLooks := .later }
def UtfRepairsUptoCardSaid : Prop := Claim7.holds Tryd.pinned (.plain (OpenSpec.upto utfRepairsSpec)) utfRepairsUptoCard

/-- THE SECOND FORM's CARD OF 'broadsheetlaw01.UtfJoins'. -/
def utfJoinsUptoCard : Claim7 := { stood := { row := utfJoinsUptoRow, standIns := [], harness := (true, "6f0e6dc3365e41c6c8d3ca5b68855bc04f1b45643469a03987820e1b33807d06"), looks := false }, kinds := [], alts := [], laidByText := true, laidKinds := [.data, .pinned], laidTests := true, laidLooks := .later }
def UtfJoinsUptoCardSaid : Prop := Claim7.holds Tryd.pinned (.plain (OpenSpec.upto utfJoinsSpec)) utfJoinsUptoCard

/-- THE SECOND FORM's CARD OF 'broadsheetlaw01.UtfMakes'. -/
def utfMakesUptoCard : Claim7 := { stood := { row := utfMakesUptoRow, standIns := [], harness := (true, "6f0e6dc3365e41c6c8d3ca5b68855bc04f1b45643469a03987820e1b33807d06"), looks := false }, kinds := [], alts := [], laidByText := true, laidKinds := [.data, .pinned], laidTests := true, laidLooks := .later }
def UtfMakesUptoCardSaid : Prop := Claim7.holds Tryd.pinned (.plain (OpenSpec.upto utfMakesSpec)) utfMakesUptoCard

/-- THE SECOND FORM's CARD OF 'broadsheetlaw01.UtfBack'. -/
def utfBackUptoCard : Claim7 := { stood := { row := utfBackUptoRow, standIns := [], harness := (true, "6f0e6dc3365e41c6c8d3ca5b68855bc04f1b45643469a03987820e1b33807d06"), looks := false }, kinds := [], alts := [], laidByText := true, laidKinds := [.data, .pinned], laidTests := true, laidLooks := .later }
def UtfBackUptoCardSaid : Prop := Claim7.holds Tryd.pinned (.plain (OpenSpec.upto utfBackSpec)) utfBackUptoCard
end Rows
end Go.Proofs.YtpmndnijejnhnaaDoor
