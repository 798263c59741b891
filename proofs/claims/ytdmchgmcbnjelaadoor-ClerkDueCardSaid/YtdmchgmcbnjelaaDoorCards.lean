/-
  DERIVED. GIVEN WITH THE SEED: THE CARDS: each row of YtdmchgmcbnjelaaDoorRows.lean that lists a variable, with what it lists TIED to the program's text (the seventh form; the later family's looks); each row that meets fmt, with fmt's text TOLD by the authors' own Lean function (tested against real Go, not proved from fmt's source: count such statements apart). THE CARD IS WHAT COUNTS. Prove the row's statement (the work); the ties are given (YtdmchgmcbnjelaaDoorTie.lean); close each card by the builder's one call (the guide's Derived/Test/ToyasCard.lean, 'card_holds'). Laid BY PROGRAM, IN A SANDBOX (cutbox-door.mjs). By AI agents, Wed Nov 11 2026. No macro, syntax, notation, axiom, sorry.
-/
import Derived.Test.YtdmchgmcbnjelaaDoorRows
import GoSem.ClaimSeven
namespace Go.Proofs.YtdmchgmcbnjelaaDoor
namespace Rows

/-- THE TIED CARD OF 'horologelaw19.ClerkDue'. -/
def clerkDueCard : Claim7 := { stood := { row := clerkDueRow, standIns := [], harness := (true, "e2742e698ae2f5e5ec55bcd9c4585f9357f175f877939b0734186cc405f73b39"), looks := false }, kinds := [], alts := [], laidByText := true, laidKinds := [.data, .data, .pinned], laidTests := true, laidLooks := .later }
def ClerkDueCardSaid : Prop := Claim7.holds Tryd.pinned (.plain (OpenSpec.ofChange clerkDueSpec)) clerkDueCard

/-- THE SECOND FORM's CARD OF 'horologelaw19.ClerkDue'. -/
def clerkDueUptoCard : Claim7 := { stood := { row := clerkDueUptoRow, standIns := [], harness := (true, "e2742e698ae2f5e5ec55bcd9c4585f9357f175f877939b0734186cc405f73b39"), looks := false }, kinds := [], alts := [], laidByText := true, laidKinds := [.data, .data, .pinned], laidTests := true, laidLooks := .later }
def ClerkDueUptoCardSaid : Prop := Claim7.holds Tryd.pinned (.plain (OpenSpec.upto clerkDueSpec)) clerkDueUptoCard
end Rows
end Go.Proofs.YtdmchgmcbnjelaaDoor
