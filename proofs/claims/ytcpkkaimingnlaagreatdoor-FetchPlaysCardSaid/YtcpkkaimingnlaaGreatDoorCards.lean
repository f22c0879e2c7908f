/-
  DERIVED. GIVEN WITH THE SEED: THE CARDS: each row of YtcpkkaimingnlaaGreatDoorRows.lean that lists a variable, with what it lists TIED to the program's text (the seventh form; the later family's looks); each row that meets fmt, with fmt's text TOLD by the authors' own Lean function (tested against real Go, not proved from fmt's source: count such statements apart). THE CARD IS WHAT COUNTS. Prove the row's statement (the work); the ties are given (YtcpkkaimingnlaaGreatDoorTie.lean); close each card by the builder's one call (the guide's Derived/Test/ToyasCard.lean, 'card_holds'). Laid BY PROGRAM, IN A SANDBOX (cutbox-door.mjs). By AI agents, Wed Nov 11 2026. No macro, syntax, notation, axiom, sorry.
-/
import Derived.Test.YtcpkkaimingnlaaGreatDoorRows
import GoSem.ClaimSeven
namespace Go.Proofs.YtcpkkaimingnlaaGreatDoor
namespace Rows

/-- THE TIED CARD OF 'broadsheetlaw04.LinkParses'. -/
def linkParsesCard : Claim7 := { stood := { row := linkParsesRow, standIns := [], harness := (true, "1d91c0d8c5f21ca4e322c50cf054fed48624e880a6969d18f3129de95241f25a"), looks := true }, kinds := [], alts := [], laidByText := true, laidKinds := [.data, .data, .data, .data, .sentinel, .sentinel, .pinned, .pinned], laidTests := true, laidLooks := .later }
def LinkParsesCardSaid : Prop := Claim7.holds Tryz.pinned (.plain (OpenSpec.ofChange linkParsesSpec)) linkParsesCard

/-- THE TIED CARD OF 'broadsheetlaw04.LinkResolves'. -/
def linkResolvesCard : Claim7 := { stood := { row := linkResolvesRow, standIns := [], harness := (true, "1d91c0d8c5f21ca4e322c50cf054fed48624e880a6969d18f3129de95241f25a"), looks := true }, kinds := [], alts := [], laidByText := true, laidKinds := [.data, .data, .data, .data, .sentinel, .sentinel, .pinned, .pinned], laidTests := true, laidLooks := .later }
def LinkResolvesCardSaid : Prop := Claim7.holds Tryz.pinned (.plain (OpenSpec.ofChange linkResolvesSpec)) linkResolvesCard

/-- THE TIED CARD OF 'broadsheetlaw04.LinkDots'. -/
def linkDotsCard : Claim7 := { stood := { row := linkDotsRow, standIns := [], harness := (true, "1d91c0d8c5f21ca4e322c50cf054fed48624e880a6969d18f3129de95241f25a"), looks := true }, kinds := [], alts := [], laidByText := true, laidKinds := [.data, .data, .data, .data, .sentinel, .sentinel, .pinned, .pinned], laidTests := true, laidLooks := .later }
def LinkDotsCardSaid : Prop := Claim7.holds Tryz.pinned (.plain (OpenSpec.ofChange linkDotsSpec)) linkDotsCard

/-- THE TIED CARD OF 'broadsheetlaw04.LinkCanon'. -/
def linkCanonCard : Claim7 := { stood := { row := linkCanonRow, standIns := [], harness := (true, "1d91c0d8c5f21ca4e322c50cf054fed48624e880a6969d18f3129de95241f25a"), looks := true }, kinds := [], alts := [], laidByText := true, laidKinds := [.data, .data, .data, .data, .sentinel, .sentinel, .pinned, .pinned], laidTests := true, laidLooks := .later }
def LinkCanonCardSaid : Prop := Claim7.holds Tryz.pinned (.plain (OpenSpec.ofChange linkCanonSpec)) linkCanonCard

/-- THE TIED CARD OF 'broadsheetlaw04.LinkAgain'. -/
def linkAgainCard : Claim7 := { stood := { row := linkAgainRow, standIns := [], harness := (true, "1d91c0d8c5f21ca4e322c50cf054fed48624e880a6969d18f3129de95241f25a"), looks := true }, kinds := [], alts := [], laidByText := true, laidKinds := [.data, .data, .data, .data, .sentinel, .sentinel, .pinned, .pinned], laidTests := true, laidLooks := .later }
def LinkAgainCardSaid : Prop := Claim7.holds Tryz.pinned (.plain (OpenSpec.ofChange linkAgainSpec)) linkAgainCard

/-- THE TIED CARD OF 'broadsheetlaw04.LinkHosts'. -/
def linkHostsCard : Claim7 := { stood := { row := linkHostsRow, standIns := [], harness := (true, "1d91c0d8c5f21ca4e322c50cf054fed48624e880a6969d18f3129de95241f25a"), looks := true }, kinds := [], alts := [], laidByText := true, laidKinds := [.data, .data, .data, .data, .sentinel, .sentinel, .pinned, .pinned], laidTests := true, laidLooks := .later }
def LinkHostsCardSaid : Prop := Claim7.holds Tryz.pinned (.plain (OpenSpec.ofChange linkHostsSpec)) linkHostsCard

/-- THE TIED CARD OF 'broadsheetlaw04.LinkSafe'. -/
def linkSafeCard : Claim7 := { stood := { row := linkSafeRow, standIns := [], harness := (true, "1d91c0d8c5f21ca4e322c50cf054fed48624e880a6969d18f3129de95241f25a"), looks := true }, kinds := [], alts := [], laidByText := true, laidKinds := [.data, .data, .data, .data, .sentinel, .sentinel, .pinned, .pinned], laidTests := true, laidLooks := .later }
def LinkSafeCardSaid : Prop := Claim7.holds Tryz.pinned (.plain (OpenSpec.ofChange linkSafeSpec)) linkSafeCard

/-- THE TIED CARD OF 'broadsheetlaw14.FetchPlays'. -/
def fetchPlaysCard : Claim7 := { stood := { row := fetchPlaysRow, standIns := [], harness := (true, "1d91c0d8c5f21ca4e322c50cf054fed48624e880a6969d18f3129de95241f25a"), looks := true }, kinds := [], alts := [], laidByText := true, laidKinds := [.data, .data, .data, .data, .sentinel, .sentinel, .pinned, .pinned], laidTests := true, laidLooks := .later }
def FetchPlaysCardSaid : Prop := Claim7.holds Tryz.pinned (.plain (OpenSpec.ofChange fetchPlaysSpec)) fetchPlaysCard

/-- THE TIED CARD OF 'broadsheetlaw14.FetchEnds'. -/
def fetchEndsCard : Claim7 := { stood := { row := fetchEndsRow, standIns := [], harness := (true, "1d91c0d8c5f21ca4e322c50cf054fed48624e880a6969d18f3129de95241f25a"), looks := true }, kinds := [], alts := [], laidByText := true, laidKinds := [.data, .data, .data, .data, .sentinel, .sentinel, .pinned, .pinned], laidTests := true, laidLooks := .later }
def FetchEndsCardSaid : Prop := Claim7.holds Tryz.pinned (.plain (OpenSpec.ofChange fetchEndsSpec)) fetchEndsCard

/-- THE TIED CARD OF 'broadsheetlaw14.FetchAlone'. -/
def fetchAloneCard : Claim7 := { stood := { row := fetchAloneRow, standIns := [], harness := (true, "1d91c0d8c5f21ca4e322c50cf054fed48624e880a6969d18f3129de95241f25a"), looks := true }, kinds := [], alts := [], laidByText := true, laidKinds := [.data, .data, .data, .data, .sentinel, .sentinel, .pinned, .pinned], laidTests := true, laidLooks := .later }
def FetchAloneCardSaid : Prop := Claim7.holds Tryz.pinned (.plain (OpenSpec.ofChange fetchAloneSpec)) fetchAloneCard

/-- THE SECOND FORM's CARD OF 'broadsheetlaw04.LinkParses'. -/
def linkParsesUptoCard : Claim7 := { stood := { row := linkParsesUptoRow, standIns := [], harness := (true, "1d91c0d8c5f21ca4e322c50cf054fed48624e880a6969d18f3129de95241f25a"), looks := true }, kinds := [], alts := [], laidByText := true, laidKinds := [.data, .data, .data, .data, .sentinel, .sentinel, .pinned, .pinned], laidTests := true, laidLooks := .later }
def LinkParsesUptoCardSaid : Prop := Claim7.holds Tryz.pinned (.plain (OpenSpec.upto linkParsesSpec)) linkParsesUptoCard

/-- THE SECOND FORM's CARD OF 'broadsheetlaw04.LinkResolves'. -/
def linkResolvesUptoCard : Claim7 := { stood := { row := linkResolvesUptoRow, standIns := [], harness := (true, "1d91c0d8c5f21ca4e322c50cf054fed48624e880a6969d18f3129de95241f25a"), looks := true }, kinds := [], alts := [], laidByText := true, laidKinds := [.data, .data, .data, .data, .sentinel, .sentinel, .pinned, .pinned], laidTests := true, laidLooks := .later }
def LinkResolvesUptoCardSaid : Prop := Claim7.holds Tryz.pinned (.plain (OpenSpec.upto linkResolvesSpec)) linkResolvesUptoCard

/-- THE SECOND FORM's CARD OF 'broadsheetlaw04.LinkDots'. -/
def linkDotsUptoCard : Claim7 := { stood := { row := linkDotsUptoRow, standIns := [], harness := (true, "1d91c0d8c5f21ca4e322c50cf054fed48624e880a6969d18f3129de95241f25a"), looks := true }, kinds := [], alts := [], laidByText := true, laidKinds := [.data, .data, .data, .data, .sentinel, .sentinel, .pinned, .pinned], laidTests := true, laidLooks := .later }
def LinkDotsUptoCardSaid : Prop := Claim7.holds Tryz.pinned (.plain (OpenSpec.upto linkDotsSpec)) linkDotsUptoCard

/-- THE SECOND FORM's CARD OF 'broadsheetlaw04.LinkCanon'. -/
def linkCanonUptoCard : Claim7 := { stood := { row := linkCanonUptoRow, standIns := [], harness := (true, "1d91c0d8c5f21ca4e322c50cf054fed48624e880a6969d18f3129de95241f25a"), looks := true }, kinds := [], alts := [], laidByText := true, laidKinds := [.data, .data, .data, .data, .sentinel, .sentinel, .pinned, .pinned], laidTests := true, laidLooks := .later }
def LinkCanonUptoCardSaid : Prop := Claim7.holds Tryz.pinned (.plain (OpenSpec.upto linkCanonSpec)) linkCanonUptoCard

/-- THE SECOND FORM's CARD OF 'broadsheetlaw04.LinkAgain'. -/
def linkAgainUptoCard : Claim7 := { stood := { row := linkAgainUptoRow, standIns := [], harness := (true, "1d91c0d8c5f21ca4e322c50cf054fed48624e880a6969d18f3129de95241f25a"), looks := true }, kinds := [], alts := [], laidByText := true, laidKinds := [.data, .data, .data, .data, .sentinel, .sentinel, .pinned, .pinned], laidTests := true, laidLooks := .later }
def LinkAgainUptoCardSaid : Prop := Claim7.holds Tryz.pinned (.plain (OpenSpec.upto linkAgainSpec)) linkAgainUptoCard

/-- THE SECOND FORM's CARD OF 'broadsheetlaw04.LinkHosts'. -/
def linkHostsUptoCard : Claim7 := { stood := { row := linkHostsUptoRow, standIns := [], harness := (true, "1d91c0d8c5f21ca4e322c50cf054fed48624e880a6969d18f3129de95241f25a"), looks := true }, kinds := [], alts := [], laidByText := true, laidKinds := [.data, .data, .data, .data, .sentinel, .sentinel, .pinned, .pinned], laidTests := true, laidLooks := .later }
def LinkHostsUptoCardSaid : Prop := Claim7.holds Tryz.pinned (.plain (OpenSpec.upto linkHostsSpec)) linkHostsUptoCard

/-- THE SECOND FORM's CARD OF 'broadsheetlaw04.LinkSafe'. -/
def linkSafeUptoCard : Claim7 := { stood := { row := linkSafeUptoRow, standIns := [], harness := (true, "1d91c0d8c5f21ca4e322c50cf054fed48624e880a6969d18f3129de95241f25a"), looks := true }, kinds := [], alts := [], laidByText := true, laidKinds := [.data, .data, .data, .data, .sentinel, .sentinel, .pinned, .pinned], laidTests := true, laidLooks := .later }
def LinkSafeUptoCardSaid : Prop := Claim7.holds Tryz.pinned (.plain (OpenSpec.upto linkSafeSpec)) linkSafeUptoCard

/-- THE SECOND FORM's CARD OF 'broadsheetlaw14.FetchPlays'. -/
def fetchPlaysUptoCard : Claim7 := { stood := { row := fetchPlaysUptoRow, standIns := [], harness := (true, "1d91c0d8c5f21ca4e322c50cf054fed48624e880a6969d18f3129de95241f25a"), looks := true }, kinds := [], alts := [], laidByText := true, laidKinds := [.data, .data, .data, .data, .sentinel, .sentinel, .pinned, .pinned], laidTests := true, laidLooks := .later }
def FetchPlaysUptoCardSaid : Prop := Claim7.holds Tryz.pinned (.plain (OpenSpec.upto fetchPlaysSpec)) fetchPlaysUptoCard

/-- THE SECOND FORM's CARD OF 'broadsheetlaw14.FetchEnds'. -/
def fetchEndsUptoCard : Claim7 := { stood := { row := fetchEndsUptoRow, standIns := [], harness := (true, "1d91c0d8c5f21ca4e322c50cf054fed48624e880a6969d18f3129de95241f25a"), looks := true }, kinds := [], alts := [], laidByText := true, laidKinds := [.data, .data, .data, .data, .sentinel, .sentinel, .pinned, .pinned], laidTests := true, laidLooks := .later }
def FetchEndsUptoCardSaid : Prop := Claim7.holds Tryz.pinned (.plain (OpenSpec.upto fetchEndsSpec)) fetchEndsUptoCard

/-- THE SECOND FORM's CARD OF 'broadsheetlaw14.FetchAlone'. -/
def fetchAloneUptoCard : Claim7 := { stood := { row := fetchAloneUptoRow, standIns := [], harness := (true, "1d91c0d8c5f21ca4e322c50cf054fed48624e880a6969d18f3129de95241f25a"), looks := true }, kinds := [], alts := [], laidByText := true, laidKinds := [.data, .data, .data, .data, .sentinel, .sentinel, .pinned, .pinned], laidTests := true, laidLooks := .later }
def FetchAloneUptoCardSaid : Prop := Claim7.holds Tryz.pinned (.plain (OpenSpec.upto fetchAloneSpec)) fetchAloneUptoCard
end Rows
end Go.Proofs.YtcpkkaimingnlaaGreatDoor
