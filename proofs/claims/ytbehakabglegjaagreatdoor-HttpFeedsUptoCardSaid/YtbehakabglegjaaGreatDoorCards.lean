/-
  DERIVED. GIVEN WITH THE SEED: THE CARDS: each row of YtbehakabglegjaaGreatDoorRows.lean that lists a variable, with what it lists TIED to the program's text (the seventh form; the later family's looks); each row that meets fmt, with fmt's text TOLD by the authors' own Lean function (tested against real Go, not proved from fmt's source: count such statements apart). THE CARD IS WHAT COUNTS. Prove the row's statement (the work); the ties are given (YtbehakabglegjaaGreatDoorTie.lean); close each card by the builder's one call (the guide's Derived/Test/ToyasCard.lean, 'card_holds'). Laid BY PROGRAM, IN A SANDBOX (cutbox-door.mjs). By AI agents, Wed Nov 11 2026. No macro, syntax, notation, axiom, sorry.
-/
import Derived.Test.YtbehakabglegjaaGreatDoorRows
import GoSem.ClaimSeven
namespace Go.Proofs.YtbehakabglegjaaGreatDoor
namespace Rows

/-- THE TIED CARD OF 'coveylaw09.HttpWrites'. -/
def httpWritesCard : Claim7 := { stood := { row := httpWritesRow, standIns := [], harness := (true, "a8f70b593872f65d4f8064f439003c26b403b590fc042f39a347f06e17c0ba50"), looks := true }, kinds := [], alts := [], laidByText := true, laidKinds := [.data, .data, .data, .data, .sentinel, .sentinel, .pinned], laidTests := true, laidLooks := .later }
def HttpWritesCardSaid : Prop := Claim7.holds Tryz.pinned (.plain (OpenSpec.ofChange httpWritesSpec)) httpWritesCard

/-- THE TIED CARD OF 'coveylaw09.HttpPieces'. -/
def httpPiecesCard : Claim7 := { stood := { row := httpPiecesRow, standIns := [], harness := (true, "a8f70b593872f65d4f8064f439003c26b403b590fc042f39a347f06e17c0ba50"), looks := true }, kinds := [], alts := [], laidByText := true, laidKinds := [.data, .data, .data, .data, .sentinel, .sentinel, .pinned], laidTests := true, laidLooks := .later }
def HttpPiecesCardSaid : Prop := Claim7.holds Tryz.pinned (.plain (OpenSpec.ofChange httpPiecesSpec)) httpPiecesCard

/-- THE TIED CARD OF 'coveylaw09.HttpHeaders'. -/
def httpHeadersCard : Claim7 := { stood := { row := httpHeadersRow, standIns := [], harness := (true, "a8f70b593872f65d4f8064f439003c26b403b590fc042f39a347f06e17c0ba50"), looks := true }, kinds := [], alts := [], laidByText := true, laidKinds := [.data, .data, .data, .data, .sentinel, .sentinel, .pinned], laidTests := true, laidLooks := .later }
def HttpHeadersCardSaid : Prop := Claim7.holds Tryz.pinned (.plain (OpenSpec.ofChange httpHeadersSpec)) httpHeadersCard

/-- THE TIED CARD OF 'coveylaw09.HttpBack'. -/
def httpBackCard : Claim7 := { stood := { row := httpBackRow, standIns := [], harness := (true, "a8f70b593872f65d4f8064f439003c26b403b590fc042f39a347f06e17c0ba50"), looks := true }, kinds := [], alts := [], laidByText := true, laidKinds := [.data, .data, .data, .data, .sentinel, .sentinel, .pinned], laidTests := true, laidLooks := .later }
def HttpBackCardSaid : Prop := Claim7.holds Tryz.pinned (.plain (OpenSpec.ofChange httpBackSpec)) httpBackCard

/-- THE TIED CARD OF 'coveylaw09.HttpFeeds'. -/
def httpFeedsCard : Claim7 := { stood := { row := httpFeedsRow, standIns := [], harness := (true, "a8f70b593872f65d4f8064f439003c26b403b590fc042f39a347f06e17c0ba50"), looks := true }, kinds := [], alts := [], laidByText := true, laidKinds := [.data, .data, .data, .data, .handle, .sentinel, .sentinel, .pinned], laidTests := true, laidLooks := .later }
def HttpFeedsCardSaid : Prop := Claim7.holds Tryz.pinned (.plain (OpenSpec.ofChange httpFeedsSpec)) httpFeedsCard

/-- THE TIED CARD OF 'coveylaw09.HttpSplits'. -/
def httpSplitsCard : Claim7 := { stood := { row := httpSplitsRow, standIns := [], harness := (true, "a8f70b593872f65d4f8064f439003c26b403b590fc042f39a347f06e17c0ba50"), looks := true }, kinds := [], alts := [], laidByText := true, laidKinds := [.data, .data, .data, .data, .handle, .sentinel, .sentinel, .pinned], laidTests := true, laidLooks := .later }
def HttpSplitsCardSaid : Prop := Claim7.holds Tryz.pinned (.plain (OpenSpec.ofChange httpSplitsSpec)) httpSplitsCard

/-- THE SECOND FORM's CARD OF 'coveylaw09.HttpWrites'. -/
def httpWritesUptoCard : Claim7 := { stood := { row := httpWritesUptoRow, standIns := [], harness := (true, "a8f70b593872f65d4f8064f439003c26b403b590fc042f39a347f06e17c0ba50"), looks := true }, kinds := [], alts := [], laidByText := true, laidKinds := [.data, .data, .data, .data, .sentinel, .sentinel, .pinned], laidTests := true, laidLooks := .later }
def HttpWritesUptoCardSaid : Prop := Claim7.holds Tryz.pinned (.plain (OpenSpec.upto httpWritesSpec)) httpWritesUptoCard

/-- THE SECOND FORM's CARD OF 'coveylaw09.HttpPieces'. -/
def httpPiecesUptoCard : Claim7 := { stood := { row := httpPiecesUptoRow, standIns := [], harness := (true, "a8f70b593872f65d4f8064f439003c26b403b590fc042f39a347f06e17c0ba50"), looks := true }, kinds := [], alts := [], laidByText := true, laidKinds := [.data, .data, .data, .data, .sentinel, .sentinel, .pinned], laidTests := true, laidLooks := .later }
def HttpPiecesUptoCardSaid : Prop := Claim7.holds Tryz.pinned (.plain (OpenSpec.upto httpPiecesSpec)) httpPiecesUptoCard

/-- THE SECOND FORM's CARD OF 'coveylaw09.HttpHeaders'. -/
def httpHeadersUptoCard : Claim7 := { stood := { row := httpHeadersUptoRow, standIns := [], harness := (true, "a8f70b593872f65d4f8064f439003c26b403b590fc042f39a347f06e17c0ba50"), looks := true }, kinds := [], alts := [], laidByText := true, laidKinds := [.data, .data, .data, .data, .sentinel, .sentinel, .pinned], laidTests := true, laidLooks := .later }
def HttpHeadersUptoCardSaid : Prop := Claim7.holds Tryz.pinned (.plain (OpenSpec.upto httpHeadersSpec)) httpHeadersUptoCard

/-- THE SECOND FORM's CARD OF 'coveylaw09.HttpBack'. -/
def httpBackUptoCard : Claim7 := { stood := { row := httpBackUptoRow, standIns := [], harness := (true, "a8f70b593872f65d4f8064f439003c26b403b590fc042f39a347f06e17c0ba50"), looks := true }, kinds := [], alts := [], laidByText := true, laidKinds := [.data, .data, .data, .data, .sentinel, .sentinel, .pinned], laidTests := true, laidLooks := .later }
def HttpBackUptoCardSaid : Prop := Claim7.holds Tryz.pinned (.plain (OpenSpec.upto httpBackSpec)) httpBackUptoCard

/-- THE SECOND FORM's CARD OF 'coveylaw09.HttpFeeds'. -/
def httpFeedsUptoCard : Claim7 := { stood := { row := httpFeedsUptoRow, standIns := [], harness := (true, "a8f70b593872f65d4f8064f439003c26b403b590fc042f39a347f06e17c0ba50"), looks := true }, kinds := [], alts := [], laidByText := true, laidKinds := [.data, .data, .data, .data, .handle, .sentinel, .sentinel, .pinned], laidTests := true, laidLooks := .later }
def HttpFeedsUptoCardSaid : Prop := Claim7.holds Tryz.pinned (.plain (OpenSpec.upto httpFeedsSpec)) httpFeedsUptoCard

/-- THE SECOND FORM's CARD OF 'coveylaw09.HttpSplits'. -/
def httpSplitsUptoCard : Claim7 := { stood := { row := httpSplitsUptoRow, standIns := [], harness := (true, "a8f70b593872f65d4f8064f439003c26b403b590fc042f39a347f06e17c0ba50"), looks := true }, kinds := [], alts := [], laidByText := true, laidKinds := [.data, .data, .data, .data, .handle, .sentinel, .sentinel, .pinned], laidTests := true, laidLooks := .later }
def HttpSplitsUptoCardSaid : Prop := Claim7.holds Tryz.pinned (.plain (OpenSpec.upto httpSplitsSpec)) httpSplitsUptoCard
end Rows
end Go.Proofs.YtbehakabglegjaaGreatDoor
