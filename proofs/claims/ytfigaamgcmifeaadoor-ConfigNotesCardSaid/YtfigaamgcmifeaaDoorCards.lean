/-
  DERIVED. GIVEN WITH THE SEED: THE CARDS: each row of YtfigaamgcmifeaaDoorRows.lean that lists a variable, with what it lists TIED to the program's text (the seventh form; the later family's looks); each row that meets fmt, with fmt's text TOLD by the authors' own Lean function (tested against real Go, not proved from fmt's source: count such statements apart). THE CARD IS WHAT COUNTS. Prove the row's statement (the work); the ties are given (YtfigaamgcmifeaaDoorTie.lean); close each card by the builder's one call (the guide's Derived/Test/ToyasCard.lean, 'card_holds'). Laid BY PROGRAM, IN A SANDBOX (cutbox-door.mjs). By AI agents, Wed Nov 11 2026. No macro, syntax, notation, axiom, sorry.
-/
import Derived.Test.YtfigaamgcmifeaaDoorRows
import GoSem.ClaimSeven
namespace Go.Proofs.YtfigaamgcmifeaaDoor
namespace Rows

/-- THE TIED CARD OF 'mandatelaw07.ConfigNotes'. -/
def configNotesCard : Claim7 := { stood := { row := configNotesRow, standIns := [], harness := (true, "7f19ce29139dfb3d0f9c051b874c8463c4a90d2e170ffad6b4f056578ad6e8d5"), looks := false }, kinds := [], alts := [], laidByText := true, laidKinds := [.data, .data, .data, .data, .pinned], laidTests := true, laidLooks := .later }
def ConfigNotesCardSaid : Prop := Claim7.holds Tryd.pinned (.plain (OpenSpec.ofChange configNotesSpec)) configNotesCard

/-- THE TIED CARD OF 'mandatelaw07.ConfigOrders'. -/
def configOrdersCard : Claim7 := { stood := { row := configOrdersRow, standIns := [], harness := (true, "7f19ce29139dfb3d0f9c051b874c8463c4a90d2e170ffad6b4f056578ad6e8d5"), looks := false }, kinds := [], alts := [], laidByText := true, laidKinds := [.data, .data, .data, .data, .pinned], laidTests := true, laidLooks := .later }
def ConfigOrdersCardSaid : Prop := Claim7.holds Tryd.pinned (.plain (OpenSpec.ofChange configOrdersSpec)) configOrdersCard

/-- THE SECOND FORM's CARD OF 'mandatelaw07.ConfigNotes'. -/
def configNotesUptoCard : Claim7 := { stood := { row := configNotesUptoRow, standIns := [], harness := (true, "7f19ce29139dfb3d0f9c051b874c8463c4a90d2e170ffad6b4f056578ad6e8d5"), looks := false }, kinds := [], alts := [], laidByText := true, laidKinds := [.data, .data, .data, .data, .pinned], laidTests := true, laidLooks := .later }
def ConfigNotesUptoCardSaid : Prop := Claim7.holds Tryd.pinned (.plain (OpenSpec.upto configNotesSpec)) configNotesUptoCard

/-- THE SECOND FORM's CARD OF 'mandatelaw07.ConfigOrders'. -/
def configOrdersUptoCard : Claim7 := { stood := { row := configOrdersUptoRow, standIns := [], harness := (true, "7f19ce29139dfb3d0f9c051b874c8463c4a90d2e170ffad6b4f056578ad6e8d5"), looks := false }, kinds := [], alts := [], laidByText := true, laidKinds := [.data, .data, .data, .data, .pinned], laidTests := true, laidLooks := .later }
def ConfigOrdersUptoCardSaid : Prop := Claim7.holds Tryd.pinned (.plain (OpenSpec.upto configOrdersSpec)) configOrdersUptoCard
end Rows
end Go.Proofs.YtfigaamgcmifeaaDoor
