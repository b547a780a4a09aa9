/-
  DERIVED. GIVEN WITH THE SEED: THE CARDS: each row of YtkpdbdlkihgofaaDoorRows.lean that lists a variable, with what it lists TIED to the program's text (the seventh form; the later family's looks); each row that meets fmt, with fmt's text TOLD by the authors' own Lean function (tested against real Go, not proved from fmt's source: count such statements apart). THE CARD IS WHAT COUNTS. Prove the row's statement (the work); the ties are given (YtkpdbdlkihgofaaDoorTie.lean); close each card by the builder's one call (the guide's Derived/Test/ToyasCard.lean, 'card_holds'). Laid BY PROGRAM, IN A SANDBOX (cutbox-door.mjs). By AI agents, Wed Nov 11 2026. No macro, syntax, notation, axiom, sorry.
-/
import Derived.Test.YtkpdbdlkihgofaaDoorRows
import GoSem.ClaimSeven
namespace Go.Proofs.YtkpdbdlkihgofaaDoor
namespace Rows

/-- THE TIED CARD OF 'pintlelaw20.FramePuts'. -/
def framePutsCard : Claim7 := { stood := { row := framePutsRow, standIns := [], harness := (true, "f3a6903fda46e49c843e60843f10e032efb00c7c2b0da927bd2113f2bae52d6b"), looks := true }, kinds := [], alts := [], laidByText := true, laidKinds := [.sentinel], laidTests := true, laidLooks := .later }
def FramePutsCardSaid : Prop := Claim7.holds Tryd.pinned (.plain (OpenSpec.ofChange framePutsSpec)) framePutsCard

/-- THE TIED CARD OF 'pintlelaw20.FramePlays'. -/
def framePlaysCard : Claim7 := { stood := { row := framePlaysRow, standIns := [], harness := (true, "f3a6903fda46e49c843e60843f10e032efb00c7c2b0da927bd2113f2bae52d6b"), looks := true }, kinds := [], alts := [], laidByText := true, laidKinds := [.sentinel], laidTests := true, laidLooks := .later }
def FramePlaysCardSaid : Prop := Claim7.holds Tryd.pinned (.plain (OpenSpec.ofChange framePlaysSpec)) framePlaysCard

/-- THE TIED CARD OF 'pintlelaw20.FrameTwo'. -/
def frameTwoCard : Claim7 := { stood := { row := frameTwoRow, standIns := [], harness := (true, "f3a6903fda46e49c843e60843f10e032efb00c7c2b0da927bd2113f2bae52d6b"), looks := true }, kinds := [], alts := [], laidByText := true, laidKinds := [.sentinel], laidTests := true, laidLooks := .later }
def FrameTwoCardSaid : Prop := Claim7.holds Tryd.pinned (.plain (OpenSpec.ofChange frameTwoSpec)) frameTwoCard

/-- THE TIED CARD OF 'pintlelaw20.FrameNothing'. -/
def frameNothingCard : Claim7 := { stood := { row := frameNothingRow, standIns := [], harness := (true, "f3a6903fda46e49c843e60843f10e032efb00c7c2b0da927bd2113f2bae52d6b"), looks := true }, kinds := [], alts := [], laidByText := true, laidKinds := [.sentinel], laidTests := true, laidLooks := .later }
def FrameNothingCardSaid : Prop := Claim7.holds Tryd.pinned (.plain (OpenSpec.ofChange frameNothingSpec)) frameNothingCard

/-- THE TIED CARD OF 'pintlelaw20.FramePieces'. -/
def framePiecesCard : Claim7 := { stood := { row := framePiecesRow, standIns := [], harness := (true, "f3a6903fda46e49c843e60843f10e032efb00c7c2b0da927bd2113f2bae52d6b"), looks := true }, kinds := [], alts := [], laidByText := true, laidKinds := [.sentinel], laidTests := true, laidLooks := .later }
def FramePiecesCardSaid : Prop := Claim7.holds Tryd.pinned (.plain (OpenSpec.ofChange framePiecesSpec)) framePiecesCard

/-- THE TIED CARD OF 'pintlelaw20.FrameOwn'. -/
def frameOwnCard : Claim7 := { stood := { row := frameOwnRow, standIns := [], harness := (true, "f3a6903fda46e49c843e60843f10e032efb00c7c2b0da927bd2113f2bae52d6b"), looks := true }, kinds := [], alts := [], laidByText := true, laidKinds := [.sentinel], laidTests := true, laidLooks := .later }
def FrameOwnCardSaid : Prop := Claim7.holds Tryd.pinned (.plain (OpenSpec.ofChange frameOwnSpec)) frameOwnCard

/-- THE SECOND FORM's CARD OF 'pintlelaw20.FramePuts'. -/
def framePutsUptoCard : Claim7 := { stood := { row := framePutsUptoRow, standIns := [], harness := (true, "f3a6903fda46e49c843e60843f10e032efb00c7c2b0da927bd2113f2bae52d6b"), looks := true }, kinds := [], alts := [], laidByText := true, laidKinds := [.sentinel], laidTests := true, laidLooks := .later }
def FramePutsUptoCardSaid : Prop := Claim7.holds Tryd.pinned (.plain (OpenSpec.upto framePutsSpec)) framePutsUptoCard

/-- THE SECOND FORM's CARD OF 'pintlelaw20.FramePlays'. -/
def framePlaysUptoCard : Claim7 := { stood := { row := framePlaysUptoRow, standIns := [], harness := (true, "f3a6903fda46e49c843e60843f10e032efb00c7c2b0da927bd2113f2bae52d6b"), looks := true }, kinds := [], alts := [], laidByText := true, laidKinds := [.sentinel], laidTests := true, laidLooks := .later }
def FramePlaysUptoCardSaid : Prop := Claim7.holds Tryd.pinned (.plain (OpenSpec.upto framePlaysSpec)) framePlaysUptoCard

/-- THE SECOND FORM's CARD OF 'pintlelaw20.FrameTwo'. -/
def frameTwoUptoCard : Claim7 := { stood := { row := frameTwoUptoRow, standIns := [], harness := (true, "f3a6903fda46e49c843e60843f10e032efb00c7c2b0da927bd2113f2bae52d6b"), looks := true }, kinds := [], alts := [], laidByText := true, laidKinds := [.sentinel], laidTests := true, laidLooks := .later }
def FrameTwoUptoCardSaid : Prop := Claim7.holds Tryd.pinned (.plain (OpenSpec.upto frameTwoSpec)) frameTwoUptoCard

/-- THE SECOND FORM's CARD OF 'pintlelaw20.FrameNothing'. -/
def frameNothingUptoCard : Claim7 := { stood := { row := frameNothingUptoRow, standIns := [], harness := (true, "f3a6903fda46e49c843e60843f10e032efb00c7c2b0da927bd2113f2bae52d6b"), looks := true }, kinds := [], alts := [], laidByText := true, laidKinds := [.sentinel], laidTests := true, laidLooks := .later }
def FrameNothingUptoCardSaid : Prop := Claim7.holds Tryd.pinned (.plain (OpenSpec.upto frameNothingSpec)) frameNothingUptoCard

/-- THE SECOND FORM's CARD OF 'pintlelaw20.FramePieces'. -/
def framePiecesUptoCard : Claim7 := { stood := { row := framePiecesUptoRow, standIns := [], harness := (true, "f3a6903fda46e49c843e60843f10e032efb00c7c2b0da927bd2113f2bae52d6b"), looks := true }, kinds := [], alts := [], laidByText := true, laidKinds := [.sentinel], laidTests := true, laidLooks := .later }
def FramePiecesUptoCardSaid : Prop := Claim7.holds Tryd.pinned (.plain (OpenSpec.upto framePiecesSpec)) framePiecesUptoCard

/-- THE SECOND FORM's CARD OF 'pintlelaw20.FrameOwn'. -/
def frameOwnUptoCard : Claim7 := { stood := { row := frameOwnUptoRow, standIns := [], harness := (true, "f3a6903fda46e49c843e60843f10e032efb00c7c2b0da927bd2113f2bae52d6b"), looks := true }, kinds := [], alts := [], laidByText := true, laidKinds := [.sentinel], laidTests := true, laidLooks := .later }
def FrameOwnUptoCardSaid : Prop := Claim7.holds Tryd.pinned (.plain (OpenSpec.upto frameOwnSpec)) frameOwnUptoCard
end Rows
end Go.Proofs.YtkpdbdlkihgofaaDoor
