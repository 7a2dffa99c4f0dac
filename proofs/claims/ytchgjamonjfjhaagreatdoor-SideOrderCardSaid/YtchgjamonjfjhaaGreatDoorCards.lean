/-
  DERIVED. GIVEN WITH THE SEED: THE CARDS: each row of YtchgjamonjfjhaaGreatDoorRows.lean that lists a variable, with what it lists TIED to the program's text (the seventh form; the later family's looks); each row that meets fmt, with fmt's text TOLD by the authors' own Lean function (tested against real Go, not proved from fmt's source: count such statements apart). THE CARD IS WHAT COUNTS. Prove the row's statement (the work); the ties are given (YtchgjamonjfjhaaGreatDoorTie.lean); close each card by the builder's one call (the guide's Derived/Test/ToyasCard.lean, 'card_holds'). Laid BY PROGRAM, IN A SANDBOX (cutbox-door.mjs). By AI agents, Wed Nov 11 2026. No macro, syntax, notation, axiom, sorry.
-/
import Derived.Test.YtchgjamonjfjhaaGreatDoorRows
import GoSem.ClaimSeven
namespace Go.Proofs.YtchgjamonjfjhaaGreatDoor
namespace Rows

/-- THE TIED CARD OF 'avocetlaw08.ModuleTold'. -/
def moduleToldCard : Claim7 := { stood := { row := moduleToldRow, standIns := [], harness := (true, "bff8029d6bfa8f25557c1c10bad37f4ca64a3f8aa7d17fb19a4fc4a3fdd6243d"), looks := true }, kinds := [], alts := [], laidByText := true, laidKinds := [.data, .data, .pinned], laidTests := true, laidLooks := .later }
def ModuleToldCardSaid : Prop := Claim7.holds Tryz.pinned (.plain (OpenSpec.ofChange moduleToldSpec)) moduleToldCard

/-- THE TIED CARD OF 'avocetlaw08.ModuleLays'. -/
def moduleLaysCard : Claim7 := { stood := { row := moduleLaysRow, standIns := [], harness := (true, "bff8029d6bfa8f25557c1c10bad37f4ca64a3f8aa7d17fb19a4fc4a3fdd6243d"), looks := true }, kinds := [], alts := [], laidByText := true, laidKinds := [.data, .data, .pinned], laidTests := true, laidLooks := .later }
def ModuleLaysCardSaid : Prop := Claim7.holds Tryz.pinned (.plain (OpenSpec.ofChange moduleLaysSpec)) moduleLaysCard

/-- THE TIED CARD OF 'avocetlaw12.SideIs'. -/
def sideIsCard : Claim7 := { stood := { row := sideIsRow, standIns := [], harness := (true, "bff8029d6bfa8f25557c1c10bad37f4ca64a3f8aa7d17fb19a4fc4a3fdd6243d"), looks := true }, kinds := [], alts := [], laidByText := true, laidKinds := [.data, .data], laidTests := true, laidLooks := .later }
def SideIsCardSaid : Prop := Claim7.holds Tryz.pinned (.plain (OpenSpec.ofChange sideIsSpec)) sideIsCard

/-- THE TIED CARD OF 'avocetlaw12.SideOrder'. -/
def sideOrderCard : Claim7 := { stood := { row := sideOrderRow, standIns := [], harness := (true, "bff8029d6bfa8f25557c1c10bad37f4ca64a3f8aa7d17fb19a4fc4a3fdd6243d"), looks := true }, kinds := [], alts := [], laidByText := true, laidKinds := [.data, .data], laidTests := true, laidLooks := .later }
def SideOrderCardSaid : Prop := Claim7.holds Tryz.pinned (.plain (OpenSpec.ofChange sideOrderSpec)) sideOrderCard

/-- THE TIED CARD OF 'avocetlaw12.SideLands'. -/
def sideLandsCard : Claim7 := { stood := { row := sideLandsRow, standIns := [], harness := (true, "bff8029d6bfa8f25557c1c10bad37f4ca64a3f8aa7d17fb19a4fc4a3fdd6243d"), looks := true }, kinds := [], alts := [], laidByText := true, laidKinds := [.data, .data], laidTests := true, laidLooks := .later }
def SideLandsCardSaid : Prop := Claim7.holds Tryz.pinned (.plain (OpenSpec.ofChange sideLandsSpec)) sideLandsCard

/-- THE TIED CARD OF 'avocetlaw12.SideMoves'. -/
def sideMovesCard : Claim7 := { stood := { row := sideMovesRow, standIns := [], harness := (true, "bff8029d6bfa8f25557c1c10bad37f4ca64a3f8aa7d17fb19a4fc4a3fdd6243d"), looks := true }, kinds := [], alts := [], laidByText := true, laidKinds := [.data, .data], laidTests := true, laidLooks := .later }
def SideMovesCardSaid : Prop := Claim7.holds Tryz.pinned (.plain (OpenSpec.ofChange sideMovesSpec)) sideMovesCard

/-- THE TIED CARD OF 'avocetlaw12.SideCounts'. -/
def sideCountsCard : Claim7 := { stood := { row := sideCountsRow, standIns := [], harness := (true, "bff8029d6bfa8f25557c1c10bad37f4ca64a3f8aa7d17fb19a4fc4a3fdd6243d"), looks := true }, kinds := [], alts := [], laidByText := true, laidKinds := [.data, .data], laidTests := true, laidLooks := .later }
def SideCountsCardSaid : Prop := Claim7.holds Tryz.pinned (.plain (OpenSpec.ofChange sideCountsSpec)) sideCountsCard

/-- THE SECOND FORM's CARD OF 'avocetlaw08.ModuleTold'. -/
def moduleToldUptoCard : Claim7 := { stood := { row := moduleToldUptoRow, standIns := [], harness := (true, "bff8029d6bfa8f25557c1c10bad37f4ca64a3f8aa7d17fb19a4fc4a3fdd6243d"), looks := true }, kinds := [], alts := [], laidByText := true, laidKinds := [.data, .data, .pinned], laidTests := true, laidLooks := .later }
def ModuleToldUptoCardSaid : Prop := Claim7.holds Tryz.pinned (.plain (OpenSpec.upto moduleToldSpec)) moduleToldUptoCard

/-- THE SECOND FORM's CARD OF 'avocetlaw08.ModuleLays'. -/
def moduleLaysUptoCard : Claim7 := { stood := { row := moduleLaysUptoRow, standIns := [], harness := (true, "bff8029d6bfa8f25557c1c10bad37f4ca64a3f8aa7d17fb19a4fc4a3fdd6243d"), looks := true }, kinds := [], alts := [], laidByText := true, laidKinds := [.data, .data, .pinned], laidTests := true, laidLooks := .later }
def ModuleLaysUptoCardSaid : Prop := Claim7.holds Tryz.pinned (.plain (OpenSpec.upto moduleLaysSpec)) moduleLaysUptoCard

/-- THE SECOND FORM's CARD OF 'avocetlaw12.SideIs'. -/
def sideIsUptoCard : Claim7 := { stood := { row := sideIsUptoRow, standIns := [], harness := (true, "bff8029d6bfa8f25557c1c10bad37f4ca64a3f8aa7d17fb19a4fc4a3fdd6243d"), looks := true }, kinds := [], alts := [], laidByText := true, laidKinds := [.data, .data], laidTests := true, laidLooks := .later }
def SideIsUptoCardSaid : Prop := Claim7.holds Tryz.pinned (.plain (OpenSpec.upto sideIsSpec)) sideIsUptoCard

/-- THE SECOND FORM's CARD OF 'avocetlaw12.SideOrder'. -/
def sideOrderUptoCard : Claim7 := { stood := { row := sideOrderUptoRow, standIns := [], harness := (true, "bff8029d6bfa8f25557c1c10bad37f4ca64a3f8aa7d17fb19a4fc4a3fdd6243d"), looks := true }, kinds := [], alts := [], laidByText := true, laidKinds := [.data, .data], laidTests := true, laidLooks := .later }
def SideOrderUptoCardSaid : Prop := Claim7.holds Tryz.pinned (.plain (OpenSpec.upto sideOrderSpec)) sideOrderUptoCard

/-- THE SECOND FORM's CARD OF 'avocetlaw12.SideLands'. -/
def sideLandsUptoCard : Claim7 := { stood := { row := sideLandsUptoRow, standIns := [], harness := (true, "bff8029d6bfa8f25557c1c10bad37f4ca64a3f8aa7d17fb19a4fc4a3fdd6243d"), looks := true }, kinds := [], alts := [], laidByText := true, laidKinds := [.data, .data], laidTests := true, laidLooks := .later }
def SideLandsUptoCardSaid : Prop := Claim7.holds Tryz.pinned (.plain (OpenSpec.upto sideLandsSpec)) sideLandsUptoCard

/-- THE SECOND FORM's CARD OF 'avocetlaw12.SideMoves'. -/
def sideMovesUptoCard : Claim7 := { stood := { row := sideMovesUptoRow, standIns := [], harness := (true, "bff8029d6bfa8f25557c1c10bad37f4ca64a3f8aa7d17fb19a4fc4a3fdd6243d"), looks := true }, kinds := [], alts := [], laidByText := true, laidKinds := [.data, .data], laidTests := true, laidLooks := .later }
def SideMovesUptoCardSaid : Prop := Claim7.holds Tryz.pinned (.plain (OpenSpec.upto sideMovesSpec)) sideMovesUptoCard

/-- THE SECOND FORM's CARD OF 'avocetlaw12.SideCounts'. -/
def sideCountsUptoCard : Claim7 := { stood := { row := sideCountsUptoRow, standIns := [], harness := (true, "bff8029d6bfa8f25557c1c10bad37f4ca64a3f8aa7d17fb19a4fc4a3fdd6243d"), looks := true }, kinds := [], alts := [], laidByText := true, laidKinds := [.data, .data], laidTests := true, laidLooks := .later }
def SideCountsUptoCardSaid : Prop := Claim7.holds Tryz.pinned (.plain (OpenSpec.upto sideCountsSpec)) sideCountsUptoCard
end Rows
end Go.Proofs.YtchgjamonjfjhaaGreatDoor
