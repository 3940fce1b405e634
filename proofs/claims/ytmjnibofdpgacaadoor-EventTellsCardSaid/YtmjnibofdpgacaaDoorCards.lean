/-
  DERIVED. GIVEN WITH THE SEED: THE CARDS: each row of YtmjnibofdpgacaaDoorRows.lean that lists a variable, with what it lists TIED to the program's text (the seventh form; the later family's looks); each row that meets fmt, with fmt's text TOLD by the authors' own Lean function (tested against real Go, not proved from fmt's source: count such statements apart). THE CARD IS WHAT COUNTS. Prove the row's statement (the work); the ties are given (YtmjnibofdpgacaaDoorTie.lean); close each card by the builder's one call (the guide's Derived/Test/ToyasCard.lean, 'card_holds'). Laid BY PROGRAM, IN A SANDBOX (cutbox-door.mjs). By AI agents, Wed Nov 11 2026. No macro, syntax, notation, axiom, sorry.
-/
import Derived.Test.YtmjnibofdpgacaaDoorRows
import GoSem.ClaimSeven
namespace Go.Proofs.YtmjnibofdpgacaaDoor
namespace Rows

/-- THE TIED CARD OF 'groupcontrollaw37.EventLimits'. -/
def eventLimitsCard : Claim7 := { stood := { row := eventLimitsRow, standIns := [], harness := (true, "0273511394e015793cba27a918b7efdab6a78888f57db8067a1bdba87d70809d"), looks := false }, kinds := [], alts := [], laidByText := true, laidKinds := [.data, .data, .data], laidTests := true, laidLooks := .later }
def EventLimitsCardSaid : Prop := Claim7.holds Tryd.pinned (.plain (OpenSpec.ofChange eventLimitsSpec)) eventLimitsCard

/-- THE TIED CARD OF 'groupcontrollaw37.EventExact'. -/
def eventExactCard : Claim7 := { stood := { row := eventExactRow, standIns := [], harness := (true, "0273511394e015793cba27a918b7efdab6a78888f57db8067a1bdba87d70809d"), looks := false }, kinds := [], alts := [], laidByText := true, laidKinds := [.data, .data, .data], laidTests := true, laidLooks := .later }
def EventExactCardSaid : Prop := Claim7.holds Tryd.pinned (.plain (OpenSpec.ofChange eventExactSpec)) eventExactCard

/-- THE TIED CARD OF 'groupcontrollaw37.EventSums'. -/
def eventSumsCard : Claim7 := { stood := { row := eventSumsRow, standIns := [], harness := (true, "0273511394e015793cba27a918b7efdab6a78888f57db8067a1bdba87d70809d"), looks := false }, kinds := [], alts := [], laidByText := true, laidKinds := [.data, .data, .data], laidTests := true, laidLooks := .later }
def EventSumsCardSaid : Prop := Claim7.holds Tryd.pinned (.plain (OpenSpec.ofChange eventSumsSpec)) eventSumsCard

/-- THE TIED CARD OF 'groupcontrollaw37.EventKeeps'. -/
def eventKeepsCard : Claim7 := { stood := { row := eventKeepsRow, standIns := [], harness := (true, "0273511394e015793cba27a918b7efdab6a78888f57db8067a1bdba87d70809d"), looks := false }, kinds := [], alts := [], laidByText := true, laidKinds := [.data, .data, .data], laidTests := true, laidLooks := .later }
def EventKeepsCardSaid : Prop := Claim7.holds Tryd.pinned (.plain (OpenSpec.ofChange eventKeepsSpec)) eventKeepsCard

/-- THE TIED CARD OF 'groupcontrollaw37.EventTells'. -/
def eventTellsCard : Claim7 := { stood := { row := eventTellsRow, standIns := [], harness := (true, "0273511394e015793cba27a918b7efdab6a78888f57db8067a1bdba87d70809d"), looks := false }, kinds := [], alts := [], laidByText := true, laidKinds := [.data, .data, .data], laidTests := true, laidLooks := .later }
def EventTellsCardSaid : Prop := Claim7.holds Tryd.pinned (.plain (OpenSpec.ofChange eventTellsSpec)) eventTellsCard

/-- THE SECOND FORM's CARD OF 'groupcontrollaw37.EventLimits'. -/
def eventLimitsUptoCard : Claim7 := { stood := { row := eventLimitsUptoRow, standIns := [], harness := (true, "0273511394e015793cba27a918b7efdab6a78888f57db8067a1bdba87d70809d"), looks := false }, kinds := [], alts := [], laidByText := true, laidKinds := [.data, .data, .data], laidTests := true, laidLooks := .later }
def EventLimitsUptoCardSaid : Prop := Claim7.holds Tryd.pinned (.plain (OpenSpec.upto eventLimitsSpec)) eventLimitsUptoCard

/-- THE SECOND FORM's CARD OF 'groupcontrollaw37.EventExact'. -/
def eventExactUptoCard : Claim7 := { stood := { row := eventExactUptoRow, standIns := [], harness := (true, "0273511394e015793cba27a918b7efdab6a78888f57db8067a1bdba87d70809d"), looks := false }, kinds := [], alts := [], laidByText := true, laidKinds := [.data, .data, .data], laidTests := true, laidLooks := .later }
def EventExactUptoCardSaid : Prop := Claim7.holds Tryd.pinned (.plain (OpenSpec.upto eventExactSpec)) eventExactUptoCard

/-- THE SECOND FORM's CARD OF 'groupcontrollaw37.EventSums'. -/
def eventSumsUptoCard : Claim7 := { stood := { row := eventSumsUptoRow, standIns := [], harness := (true, "0273511394e015793cba27a918b7efdab6a78888f57db8067a1bdba87d70809d"), looks := false }, kinds := [], alts := [], laidByText := true, laidKinds := [.data, .data, .data], laidTests := true, laidLooks := .later }
def EventSumsUptoCardSaid : Prop := Claim7.holds Tryd.pinned (.plain (OpenSpec.upto eventSumsSpec)) eventSumsUptoCard

/-- THE SECOND FORM's CARD OF 'groupcontrollaw37.EventKeeps'. -/
def eventKeepsUptoCard : Claim7 := { stood := { row := eventKeepsUptoRow, standIns := [], harness := (true, "0273511394e015793cba27a918b7efdab6a78888f57db8067a1bdba87d70809d"), looks := false }, kinds := [], alts := [], laidByText := true, laidKinds := [.data, .data, .data], laidTests := true, laidLooks := .later }
def EventKeepsUptoCardSaid : Prop := Claim7.holds Tryd.pinned (.plain (OpenSpec.upto eventKeepsSpec)) eventKeepsUptoCard

/-- THE SECOND FORM's CARD OF 'groupcontrollaw37.EventTells'. -/
def eventTellsUptoCard : Claim7 := { stood := { row := eventTellsUptoRow, standIns := [], harness := (true, "0273511394e015793cba27a918b7efdab6a78888f57db8067a1bdba87d70809d"), looks := false }, kinds := [], alts := [], laidByText := true, laidKinds := [.data, .data, .data], laidTests := true, laidLooks := .later }
def EventTellsUptoCardSaid : Prop := Claim7.holds Tryd.pinned (.plain (OpenSpec.upto eventTellsSpec)) eventTellsUptoCard
end Rows
end Go.Proofs.YtmjnibofdpgacaaDoor
