/-
  DERIVED. GIVEN WITH THE SEED: THE CARDS: each row of YtjhncopbiblenaaDoorRows.lean that lists a variable, with what it lists TIED to the program's text (the seventh form; the later family's looks); each row that meets fmt, with fmt's text TOLD by the authors' own Lean function (tested against real Go, not proved from fmt's source: count such statements apart). THE CARD IS WHAT COUNTS. Prove the row's statement (the work); the ties are given (YtjhncopbiblenaaDoorTie.lean); close each card by the builder's one call (the guide's Derived/Test/ToyasCard.lean, 'card_holds'). Laid BY PROGRAM, IN A SANDBOX (cutbox-door.mjs). By AI agents, Wed Nov 11 2026. No macro, syntax, notation, axiom, sorry.
-/
import Derived.Test.YtjhncopbiblenaaDoorRows
import GoSem.ClaimSeven
namespace Go.Proofs.YtjhncopbiblenaaDoor
namespace Rows

/-- THE TIED CARD OF 'coveylaw02.JsonGets'. -/
def jsonGetsCard : Claim7 := { stood := { row := jsonGetsRow, standIns := [], harness := (true, "9684510fd1dc0915f191317b9d8c004dedcd32e18e168efaa8b89cc2b02d6c0e"), looks := true }, kinds := [], alts := [], laidByText := true, laidKinds := [.data, .data, .data, .data, .handle, .sentinel, .sentinel, .pinned], laidTests := true, laidLooks := .later }
def JsonGetsCardSaid : Prop := Claim7.holds Tryd.pinned (.plain (OpenSpec.ofChange jsonGetsSpec)) jsonGetsCard

/-- THE TIED CARD OF 'coveylaw02.JsonSound'. -/
def jsonSoundCard : Claim7 := { stood := { row := jsonSoundRow, standIns := [], harness := (true, "9684510fd1dc0915f191317b9d8c004dedcd32e18e168efaa8b89cc2b02d6c0e"), looks := true }, kinds := [], alts := [], laidByText := true, laidKinds := [.data, .data, .data, .data, .handle, .sentinel, .sentinel, .pinned], laidTests := true, laidLooks := .later }
def JsonSoundCardSaid : Prop := Claim7.holds Tryd.pinned (.plain (OpenSpec.ofChange jsonSoundSpec)) jsonSoundCard

/-- THE TIED CARD OF 'coveylaw02.JsonWalks'. -/
def jsonWalksCard : Claim7 := { stood := { row := jsonWalksRow, standIns := [], harness := (true, "9684510fd1dc0915f191317b9d8c004dedcd32e18e168efaa8b89cc2b02d6c0e"), looks := true }, kinds := [], alts := [], laidByText := true, laidKinds := [.data, .data, .data, .data, .handle, .sentinel, .sentinel, .pinned], laidTests := true, laidLooks := .later }
def JsonWalksCardSaid : Prop := Claim7.holds Tryd.pinned (.plain (OpenSpec.ofChange jsonWalksSpec)) jsonWalksCard

/-- THE SECOND FORM's CARD OF 'coveylaw02.JsonGets'. -/
def jsonGetsUptoCard : Claim7 := { stood := { row := jsonGetsUptoRow, standIns := [], harness := (true, "9684510fd1dc0915f191317b9d8c004dedcd32e18e168efaa8b89cc2b02d6c0e"), looks := true }, kinds := [], alts := [], laidByText := true, laidKinds := [.data, .data, .data, .data, .handle, .sentinel, .sentinel, .pinned], laidTests := true, laidLooks := .later }
def JsonGetsUptoCardSaid : Prop := Claim7.holds Tryd.pinned (.plain (OpenSpec.upto jsonGetsSpec)) jsonGetsUptoCard

/-- THE SECOND FORM's CARD OF 'coveylaw02.JsonSound'. -/
def jsonSoundUptoCard : Claim7 := { stood := { row := jsonSoundUptoRow, standIns := [], harness := (true, "9684510fd1dc0915f191317b9d8c004dedcd32e18e168efaa8b89cc2b02d6c0e"), looks := true }, kinds := [], alts := [], laidByText := true, laidKinds := [.data, .data, .data, .data, .handle, .sentinel, .sentinel, .pinned], laidTests := true, laidLooks := .later }
def JsonSoundUptoCardSaid : Prop := Claim7.holds Tryd.pinned (.plain (OpenSpec.upto jsonSoundSpec)) jsonSoundUptoCard

/-- THE SECOND FORM's CARD OF 'coveylaw02.JsonWalks'. -/
def jsonWalksUptoCard : Claim7 := { stood := { row := jsonWalksUptoRow, standIns := [], harness := (true, "9684510fd1dc0915f191317b9d8c004dedcd32e18e168efaa8b89cc2b02d6c0e"), looks := true }, kinds := [], alts := [], laidByText := true, laidKinds := [.data, .data, .data, .data, .handle, .sentinel, .sentinel, .pinned], laidTests := true, laidLooks := .later }
def JsonWalksUptoCardSaid : Prop := Claim7.holds Tryd.pinned (.plain (OpenSpec.upto jsonWalksSpec)) jsonWalksUptoCard
end Rows
end Go.Proofs.YtjhncopbiblenaaDoor
