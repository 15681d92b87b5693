/-
  DERIVED. GIVEN WITH THE SEED: THE CARDS: each row of YtmiphbjpcbfaeaaDoorRows.lean that lists a variable, with what it lists TIED to the program's text (the seventh form; the later family's looks); each row that meets fmt, with fmt's text TOLD by the authors' own Lean function (tested against real Go, not proved from fmt's source: count such statements apart). THE CARD IS WHAT COUNTS. Prove the row's statement (the work); the ties are given (YtmiphbjpcbfaeaaDoorTie.lean); close each card by the builder's one call (the guide's Derived/Test/ToyasCard.lean, 'card_holds'). Laid BY PROGRAM, IN A SANDBOX (cutbox-door.mjs). By AI agents, Wed Nov 11 2026. No macro, syntax, notation, axiom, sorry.
-/
import Derived.Test.YtmiphbjpcbfaeaaDoorRows
import GoSem.ClaimSeven
namespace Go.Proofs.YtmiphbjpcbfaeaaDoor
namespace Rows

/-- THE TIED CARD OF 'coveylaw02.JsonWalks'. -/
def jsonWalksCard : Claim7 := { stood := { row := jsonWalksRow, standIns := [], harness := (true, "a70cf5ae0a809e866474145db872345be1bd0d8c0fe80fe6d60f845a891d498a"), looks := true }, kinds := [], alts := [], laidByText := true, laidKinds := [.data, .data, .data, .data, .handle, .sentinel, .sentinel, .pinned], laidTests := true, laidLooks := .later }
def JsonWalksCardSaid : Prop := Claim7.holds Tryd.pinned (.plain (OpenSpec.ofChange jsonWalksSpec)) jsonWalksCard

/-- THE SECOND FORM's CARD OF 'coveylaw02.JsonWalks'. -/
def jsonWalksUptoCard : Claim7 := { stood := { row := jsonWalksUptoRow, standIns := [], harness := (true, "a70cf5ae0a809e866474145db872345be1bd0d8c0fe80fe6d60f845a891d498a"), looks := true }, kinds := [], alts := [], laidByText := true, laidKinds := [.data, .data, .data, .data, .handle, .sentinel, .sentinel, .pinned], laidTests := true, laidLooks := .later }
def JsonWalksUptoCardSaid : Prop := Claim7.holds Tryd.pinned (.plain (OpenSpec.upto jsonWalksSpec)) jsonWalksUptoCard
end Rows
end Go.Proofs.YtmiphbjpcbfaeaaDoor
