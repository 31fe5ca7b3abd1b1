/-
  DERIVED. GIVEN WITH THE SEED: THE CARDS: each row of YtpakkedlfoapeaaDoorRows.lean that lists a variable, with what it lists TIED to the program's text (the seventh form; the later family's looks); each row that meets fmt, with fmt's text TOLD by the authors' own Lean function (tested against real Go, not proved from fmt's source: count such statements apart). THE CARD IS WHAT COUNTS. Prove the row's statement (the work); the ties are given (YtpakkedlfoapeaaDoorTie.lean); close each card by the builder's one call (the guide's Derived/Test/ToyasCard.lean, 'card_holds'). Laid BY PROGRAM, IN A SANDBOX (cutbox-door.mjs). By AI agents, Wed Nov 11 2026. No macro, syntax, notation, axiom, sorry.
-/
import Derived.Test.YtpakkedlfoapeaaDoorRows
import GoSem.ClaimSeven
namespace Go.Proofs.YtpakkedlfoapeaaDoor
namespace Rows

/-- THE TIED CARD OF 'escutcheonlaw21.DeviceLasts'. -/
def deviceLastsCard : Claim7 := { stood := { row := deviceLastsRow, standIns := [], harness := (true, "9e5326c0edbecc650c2385e8ea735e52aaec039c7cf9a962b37ba926da897c25"), looks := true }, kinds := [], alts := [], laidByText := true, laidKinds := [.data], laidTests := true, laidLooks := .later }
def DeviceLastsCardSaid : Prop := Claim7.holds Tryd.pinned (.plain (OpenSpec.ofChange deviceLastsSpec)) deviceLastsCard

/-- THE TIED CARD OF 'escutcheonlaw21.DeviceArgs'. -/
def deviceArgsCard : Claim7 := { stood := { row := deviceArgsRow, standIns := [], harness := (true, "9e5326c0edbecc650c2385e8ea735e52aaec039c7cf9a962b37ba926da897c25"), looks := true }, kinds := [], alts := [], laidByText := true, laidKinds := [.data], laidTests := true, laidLooks := .later }
def DeviceArgsCardSaid : Prop := Claim7.holds Tryd.pinned (.plain (OpenSpec.ofChange deviceArgsSpec)) deviceArgsCard

/-- THE SECOND FORM's CARD OF 'escutcheonlaw21.DeviceLasts'. -/
def deviceLastsUptoCard : Claim7 := { stood := { row := deviceLastsUptoRow, standIns := [], harness := (true, "9e5326c0edbecc650c2385e8ea735e52aaec039c7cf9a962b37ba926da897c25"), looks := true }, kinds := [], alts := [], laidByText := true, laidKinds := [.data], laidTests := true, laidLooks := .later }
def DeviceLastsUptoCardSaid : Prop := Claim7.holds Tryd.pinned (.plain (OpenSpec.upto deviceLastsSpec)) deviceLastsUptoCard

/-- THE SECOND FORM's CARD OF 'escutcheonlaw21.DeviceArgs'. -/
def deviceArgsUptoCard : Claim7 := { stood := { row := deviceArgsUptoRow, standIns := [], harness := (true, "9e5326c0edbecc650c2385e8ea735e52aaec039c7cf9a962b37ba926da897c25"), looks := true }, kinds := [], alts := [], laidByText := true, laidKinds := [.data], laidTests := true, laidLooks := .later }
def DeviceArgsUptoCardSaid : Prop := Claim7.holds Tryd.pinned (.plain (OpenSpec.upto deviceArgsSpec)) deviceArgsUptoCard
end Rows
end Go.Proofs.YtpakkedlfoapeaaDoor
