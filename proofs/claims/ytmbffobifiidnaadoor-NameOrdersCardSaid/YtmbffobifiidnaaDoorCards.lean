/-
  DERIVED. GIVEN WITH THE SEED: THE CARDS: each row of YtmbffobifiidnaaDoorRows.lean that lists a variable, with what it lists TIED to the program's text (the seventh form; the later family's looks); each row that meets fmt, with fmt's text TOLD by the authors' own Lean function (tested against real Go, not proved from fmt's source: count such statements apart). THE CARD IS WHAT COUNTS. Prove the row's statement (the work); the ties are given (YtmbffobifiidnaaDoorTie.lean); close each card by the builder's one call (the guide's Derived/Test/ToyasCard.lean, 'card_holds'). Laid BY PROGRAM, IN A SANDBOX (cutbox-door.mjs). By AI agents, Wed Nov 11 2026. No macro, syntax, notation, axiom, sorry.
-/
import Derived.Test.YtmbffobifiidnaaDoorRows
import GoSem.ClaimSeven
namespace Go.Proofs.YtmbffobifiidnaaDoor
namespace Rows

/-- THE TIED CARD OF 'groupcontrollaw1.NameOrders'. -/
def nameOrdersCard : Claim7 := { stood := { row := nameOrdersRow, standIns := [], harness := (true, "9962e747acf6cd66237d66f1be4159427718ab4657899c5487808913b5ec0e2c"), looks := false }, kinds := [], alts := [], laidByText := true, laidKinds := [.data, .pinned], laidTests := true, laidLooks := .later }
def NameOrdersCardSaid : Prop := Claim7.holds Tryd.pinned (.plain (OpenSpec.ofChange nameOrdersSpec)) nameOrdersCard

/-- THE TIED CARD OF 'groupcontrollaw1.NameTotal'. -/
def nameTotalCard : Claim7 := { stood := { row := nameTotalRow, standIns := [], harness := (true, "9962e747acf6cd66237d66f1be4159427718ab4657899c5487808913b5ec0e2c"), looks := false }, kinds := [], alts := [], laidByText := true, laidKinds := [.data, .pinned], laidTests := true, laidLooks := .later }
def NameTotalCardSaid : Prop := Claim7.holds Tryd.pinned (.plain (OpenSpec.ofChange nameTotalSpec)) nameTotalCard

/-- THE SECOND FORM's CARD OF 'groupcontrollaw1.NameOrders'. -/
def nameOrdersUptoCard : Claim7 := { stood := { row := nameOrdersUptoRow, standIns := [], harness := (true, "9962e747acf6cd66237d66f1be4159427718ab4657899c5487808913b5ec0e2c"), looks := false }, kinds := [], alts := [], laidByText := true, laidKinds := [.data, .pinned], laidTests := true, laidLooks := .later }
def NameOrdersUptoCardSaid : Prop := Claim7.holds Tryd.pinned (.plain (OpenSpec.upto nameOrdersSpec)) nameOrdersUptoCard

/-- THE SECOND FORM's CARD OF 'groupcontrollaw1.NameTotal'. -/
def nameTotalUptoCard : Claim7 := { stood := { row := nameTotalUptoRow, standIns := [], harness := (true, "9962e747acf6cd66237d66f1be4159427718ab4657899c5487808913b5ec0e2c"), looks := false }, kinds := [], alts := [], laidByText := true, laidKinds := [.data, .pinned], laidTests := true, laidLooks := .later }
def NameTotalUptoCardSaid : Prop := Claim7.holds Tryd.pinned (.plain (OpenSpec.upto nameTotalSpec)) nameTotalUptoCard
end Rows
end Go.Proofs.YtmbffobifiidnaaDoor
