/-
  DERIVED. GIVEN WITH THE SEED: THE CARDS: each row of YtnjhmnolngdfaaaGreatDoorRows.lean that lists a variable, with what it lists TIED to the program's text (the seventh form; the later family's looks); each row that meets fmt, with fmt's text TOLD by the authors' own Lean function (tested against real Go, not proved from fmt's source: count such statements apart). THE CARD IS WHAT COUNTS. Prove the row's statement (the work); the ties are given (YtnjhmnolngdfaaaGreatDoorTie.lean); close each card by the builder's one call (the guide's Derived/Test/ToyasCard.lean, 'card_holds'). Laid BY PROGRAM, IN A SANDBOX (cutbox-door.mjs). By AI agents, Wed Nov 11 2026. No macro, syntax, notation, axiom, sorry.
-/
import Derived.Test.YtnjhmnolngdfaaaGreatDoorRows
import GoSem.ClaimSeven
namespace Go.Proofs.YtnjhmnolngdfaaaGreatDoor
namespace Rows

/-- THE TIED CARD OF 'coveylaw03.CanonWrites'. -/
def canonWritesCard : Claim7 := { stood := { row := canonWritesRow, standIns := [], harness := (true, "3ce621959a60c0c779d74f98d199a190607f997b5511a4b2379e81ced04946b3"), looks := true }, kinds := [], alts := [], laidByText := true, laidKinds := [.data, .data, .data, .data, .sentinel, .sentinel, .pinned], laidTests := true, laidLooks := .later }
def CanonWritesCardSaid : Prop := Claim7.holds Tryz.pinned (.plain (OpenSpec.ofChange canonWritesSpec)) canonWritesCard

/-- THE TIED CARD OF 'coveylaw03.CanonIs'. -/
def canonIsCard : Claim7 := { stood := { row := canonIsRow, standIns := [], harness := (true, "3ce621959a60c0c779d74f98d199a190607f997b5511a4b2379e81ced04946b3"), looks := true }, kinds := [], alts := [], laidByText := true, laidKinds := [.data, .data, .data, .data, .sentinel, .sentinel, .pinned], laidTests := true, laidLooks := .later }
def CanonIsCardSaid : Prop := Claim7.holds Tryz.pinned (.plain (OpenSpec.ofChange canonIsSpec)) canonIsCard

/-- THE TIED CARD OF 'coveylaw03.CanonWithouts'. -/
def canonWithoutsCard : Claim7 := { stood := { row := canonWithoutsRow, standIns := [], harness := (true, "3ce621959a60c0c779d74f98d199a190607f997b5511a4b2379e81ced04946b3"), looks := true }, kinds := [], alts := [], laidByText := true, laidKinds := [.data, .data, .data, .data, .sentinel, .sentinel, .pinned], laidTests := true, laidLooks := .later }
def CanonWithoutsCardSaid : Prop := Claim7.holds Tryz.pinned (.plain (OpenSpec.ofChange canonWithoutsSpec)) canonWithoutsCard

/-- THE TIED CARD OF 'coveylaw03.CanonSames'. -/
def canonSamesCard : Claim7 := { stood := { row := canonSamesRow, standIns := [], harness := (true, "3ce621959a60c0c779d74f98d199a190607f997b5511a4b2379e81ced04946b3"), looks := true }, kinds := [], alts := [], laidByText := true, laidKinds := [.data, .data, .data, .data, .sentinel, .sentinel, .pinned], laidTests := true, laidLooks := .later }
def CanonSamesCardSaid : Prop := Claim7.holds Tryz.pinned (.plain (OpenSpec.ofChange canonSamesSpec)) canonSamesCard

/-- THE TIED CARD OF 'coveylaw03.CanonBack'. -/
def canonBackCard : Claim7 := { stood := { row := canonBackRow, standIns := [], harness := (true, "3ce621959a60c0c779d74f98d199a190607f997b5511a4b2379e81ced04946b3"), looks := true }, kinds := [], alts := [], laidByText := true, laidKinds := [.data, .data, .data, .data, .sentinel, .sentinel, .pinned], laidTests := true, laidLooks := .later }
def CanonBackCardSaid : Prop := Claim7.holds Tryz.pinned (.plain (OpenSpec.ofChange canonBackSpec)) canonBackCard

/-- THE TIED CARD OF 'coveylaw03.CanonOne'. -/
def canonOneCard : Claim7 := { stood := { row := canonOneRow, standIns := [], harness := (true, "3ce621959a60c0c779d74f98d199a190607f997b5511a4b2379e81ced04946b3"), looks := true }, kinds := [], alts := [], laidByText := true, laidKinds := [.data, .data, .data, .data, .sentinel, .sentinel, .pinned], laidTests := true, laidLooks := .later }
def CanonOneCardSaid : Prop := Claim7.holds Tryz.pinned (.plain (OpenSpec.ofChange canonOneSpec)) canonOneCard

/-- THE SECOND FORM's CARD OF 'coveylaw03.CanonWrites'. -/
def canonWritesUptoCard : Claim7 := { stood := { row := canonWritesUptoRow, standIns := [], harness := (true, "3ce621959a60c0c779d74f98d199a190607f997b5511a4b2379e81ced04946b3"), looks := true }, kinds := [], alts := [], laidByText := true, laidKinds := [.data, .data, .data, .data, .sentinel, .sentinel, .pinned], laidTests := true, laidLooks := .later }
def CanonWritesUptoCardSaid : Prop := Claim7.holds Tryz.pinned (.plain (OpenSpec.upto canonWritesSpec)) canonWritesUptoCard

/-- THE SECOND FORM's CARD OF 'coveylaw03.CanonIs'. -/
def canonIsUptoCard : Claim7 := { stood := { row := canonIsUptoRow, standIns := [], harness := (true, "3ce621959a60c0c779d74f98d199a190607f997b5511a4b2379e81ced04946b3"), looks := true }, kinds := [], alts := [], laidByText := true, laidKinds := [.data, .data, .data, .data, .sentinel, .sentinel, .pinned], laidTests := true, laidLooks := .later }
def CanonIsUptoCardSaid : Prop := Claim7.holds Tryz.pinned (.plain (OpenSpec.upto canonIsSpec)) canonIsUptoCard

/-- THE SECOND FORM's CARD OF 'coveylaw03.CanonWithouts'. -/
def canonWithoutsUptoCard : Claim7 := { stood := { row := canonWithoutsUptoRow, standIns := [], harness := (true, "3ce621959a60c0c779d74f98d199a190607f997b5511a4b2379e81ced04946b3"), looks := true }, kinds := [], alts := [], laidByText := true, laidKinds := [.data, .data, .data, .data, .sentinel, .sentinel, .pinned], laidTests := true, laidLooks := .later }
def CanonWithoutsUptoCardSaid : Prop := Claim7.holds Tryz.pinned (.plain (OpenSpec.upto canonWithoutsSpec)) canonWithoutsUptoCard

/-- THE SECOND FORM's CARD OF 'coveylaw03.CanonSames'. -/
def canonSamesUptoCard : Claim7 := { stood := { row := canonSamesUptoRow, standIns := [], harness := (true, "3ce621959a60c0c779d74f98d199a190607f997b5511a4b2379e81ced04946b3"), looks := true }, kinds := [], alts := [], laidByText := true, laidKinds := [.data, .data, .data, .data, .sentinel, .sentinel, .pinned], laidTests := true, laidLooks := .later }
def CanonSamesUptoCardSaid : Prop := Claim7.holds Tryz.pinned (.plain (OpenSpec.upto canonSamesSpec)) canonSamesUptoCard

/-- THE SECOND FORM's CARD OF 'coveylaw03.CanonBack'. -/
def canonBackUptoCard : Claim7 := { stood := { row := canonBackUptoRow, standIns := [], harness := (true, "3ce621959a60c0c779d74f98d199a190607f997b5511a4b2379e81ced04946b3"), looks := true }, kinds := [], alts := [], laidByText := true, laidKinds := [.data, .data, .data, .data, .sentinel, .sentinel, .pinned], laidTests := true, laidLooks := .later }
def CanonBackUptoCardSaid : Prop := Claim7.holds Tryz.pinned (.plain (OpenSpec.upto canonBackSpec)) canonBackUptoCard

/-- THE SECOND FORM's CARD OF 'coveylaw03.CanonOne'. -/
def canonOneUptoCard : Claim7 := { stood := { row := canonOneUptoRow, standIns := [], harness := (true, "3ce621959a60c0c779d74f98d199a190607f997b5511a4b2379e81ced04946b3"), looks := true }, kinds := [], alts := [], laidByText := true, laidKinds := [.data, .data, .data, .data, .sentinel, .sentinel, .pinned], laidTests := true, laidLooks := .later }
def CanonOneUptoCardSaid : Prop := Claim7.holds Tryz.pinned (.plain (OpenSpec.upto canonOneSpec)) canonOneUptoCard
end Rows
end Go.Proofs.YtnjhmnolngdfaaaGreatDoor
