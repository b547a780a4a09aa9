/-
  DERIVED. GIVEN WITH THE SEED: THE CARDS: each row of YtbdphdgomcabmaaGreatDoorRows.lean that lists a variable, with what it lists TIED to the program's text (the seventh form; the later family's looks); each row that meets fmt, with fmt's text TOLD by the authors' own Lean function (tested against real Go, not proved from fmt's source: count such statements apart). THE CARD IS WHAT COUNTS. Prove the row's statement (the work); the ties are given (YtbdphdgomcabmaaGreatDoorTie.lean); close each card by the builder's one call (the guide's Derived/Test/ToyasCard.lean, 'card_holds'). Laid BY PROGRAM, IN A SANDBOX (cutbox-door.mjs). By AI agents, Wed Nov 11 2026. No macro, syntax, notation, axiom, sorry.
-/
import Derived.Test.YtbdphdgomcabmaaGreatDoorRows
import GoSem.ClaimSeven
namespace Go.Proofs.YtbdphdgomcabmaaGreatDoor
namespace Rows

/-- THE TIED CARD OF 'pintlelaw16.NamingParses'. -/
def namingParsesCard : Claim7 := { stood := { row := namingParsesRow, standIns := [], harness := (true, "b2b187bdce5ed779f249dc2c01f33edcf54ed5a151f41a38a0e52d1c5745892e"), looks := true }, kinds := [], alts := [], laidByText := true, laidKinds := [.data, .data, .data, .data, .sentinel, .sentinel, .sentinel, .sentinel, .sentinel, .sentinel, .sentinel, .sentinel, .sentinel, .pinned], laidTests := true, laidLooks := .later }
def NamingParsesCardSaid : Prop := Claim7.holds Tryz.pinned (.plain (OpenSpec.ofChange namingParsesSpec)) namingParsesCard

/-- THE TIED CARD OF 'pintlelaw16.NamingWithin'. -/
def namingWithinCard : Claim7 := { stood := { row := namingWithinRow, standIns := [], harness := (true, "b2b187bdce5ed779f249dc2c01f33edcf54ed5a151f41a38a0e52d1c5745892e"), looks := true }, kinds := [], alts := [], laidByText := true, laidKinds := [.data, .data, .data, .data, .sentinel, .sentinel, .sentinel, .sentinel, .sentinel, .sentinel, .sentinel, .sentinel, .sentinel, .pinned], laidTests := true, laidLooks := .later }
def NamingWithinCardSaid : Prop := Claim7.holds Tryz.pinned (.plain (OpenSpec.ofChange namingWithinSpec)) namingWithinCard

/-- THE TIED CARD OF 'pintlelaw16.NamingPlain'. -/
def namingPlainCard : Claim7 := { stood := { row := namingPlainRow, standIns := [], harness := (true, "b2b187bdce5ed779f249dc2c01f33edcf54ed5a151f41a38a0e52d1c5745892e"), looks := true }, kinds := [], alts := [], laidByText := true, laidKinds := [.data, .data, .data, .data, .sentinel, .sentinel, .sentinel, .sentinel, .sentinel, .sentinel, .sentinel, .sentinel, .sentinel, .pinned], laidTests := true, laidLooks := .later }
def NamingPlainCardSaid : Prop := Claim7.holds Tryz.pinned (.plain (OpenSpec.ofChange namingPlainSpec)) namingPlainCard

/-- THE TIED CARD OF 'pintlelaw16.NamingWorded'. -/
def namingWordedCard : Claim7 := { stood := { row := namingWordedRow, standIns := [], harness := (true, "b2b187bdce5ed779f249dc2c01f33edcf54ed5a151f41a38a0e52d1c5745892e"), looks := true }, kinds := [], alts := [], laidByText := true, laidKinds := [.data, .data, .data, .data, .sentinel, .sentinel, .sentinel, .sentinel, .sentinel, .sentinel, .sentinel, .sentinel, .sentinel, .pinned], laidTests := true, laidLooks := .later }
def NamingWordedCardSaid : Prop := Claim7.holds Tryz.pinned (.plain (OpenSpec.ofChange namingWordedSpec)) namingWordedCard

/-- THE TIED CARD OF 'pintlelaw16.NamingIsNew'. -/
def namingIsNewCard : Claim7 := { stood := { row := namingIsNewRow, standIns := [], harness := (true, "b2b187bdce5ed779f249dc2c01f33edcf54ed5a151f41a38a0e52d1c5745892e"), looks := true }, kinds := [], alts := [], laidByText := true, laidKinds := [.data, .data, .data, .data, .sentinel, .sentinel, .sentinel, .sentinel, .sentinel, .sentinel, .sentinel, .sentinel, .sentinel, .pinned], laidTests := true, laidLooks := .later }
def NamingIsNewCardSaid : Prop := Claim7.holds Tryz.pinned (.plain (OpenSpec.ofChange namingIsNewSpec)) namingIsNewCard

/-- THE TIED CARD OF 'pintlelaw16.NamingPrints'. -/
def namingPrintsCard : Claim7 := { stood := { row := namingPrintsRow, standIns := [], harness := (true, "b2b187bdce5ed779f249dc2c01f33edcf54ed5a151f41a38a0e52d1c5745892e"), looks := true }, kinds := [], alts := [], laidByText := true, laidKinds := [.data, .data, .data, .data, .sentinel, .sentinel, .sentinel, .sentinel, .sentinel, .sentinel, .sentinel, .sentinel, .sentinel, .pinned], laidTests := true, laidLooks := .later }
def NamingPrintsCardSaid : Prop := Claim7.holds Tryz.pinned (.plain (OpenSpec.ofChange namingPrintsSpec)) namingPrintsCard

/-- THE TIED CARD OF 'pintlelaw16.NamingBack'. -/
def namingBackCard : Claim7 := { stood := { row := namingBackRow, standIns := [], harness := (true, "b2b187bdce5ed779f249dc2c01f33edcf54ed5a151f41a38a0e52d1c5745892e"), looks := true }, kinds := [], alts := [], laidByText := true, laidKinds := [.data, .data, .data, .data, .sentinel, .sentinel, .sentinel, .sentinel, .sentinel, .sentinel, .sentinel, .sentinel, .sentinel, .pinned], laidTests := true, laidLooks := .later }
def NamingBackCardSaid : Prop := Claim7.holds Tryz.pinned (.plain (OpenSpec.ofChange namingBackSpec)) namingBackCard

/-- THE TIED CARD OF 'pintlelaw16.NamingAll'. -/
def namingAllCard : Claim7 := { stood := { row := namingAllRow, standIns := [], harness := (true, "b2b187bdce5ed779f249dc2c01f33edcf54ed5a151f41a38a0e52d1c5745892e"), looks := true }, kinds := [], alts := [], laidByText := true, laidKinds := [.data, .data, .data, .data, .sentinel, .sentinel, .sentinel, .sentinel, .sentinel, .sentinel, .sentinel, .sentinel, .sentinel, .pinned], laidTests := true, laidLooks := .later }
def NamingAllCardSaid : Prop := Claim7.holds Tryz.pinned (.plain (OpenSpec.ofChange namingAllSpec)) namingAllCard

/-- THE SECOND FORM's CARD OF 'pintlelaw16.NamingParses'. -/
def namingParsesUptoCard : Claim7 := { stood := { row := namingParsesUptoRow, standIns := [], harness := (true, "b2b187bdce5ed779f249dc2c01f33edcf54ed5a151f41a38a0e52d1c5745892e"), looks := true }, kinds := [], alts := [], laidByText := true, laidKinds := [.data, .data, .data, .data, .sentinel, .sentinel, .sentinel, .sentinel, .sentinel, .sentinel, .sentinel, .sentinel, .sentinel, .pinned], laidTests := true, laidLooks := .later }
def NamingParsesUptoCardSaid : Prop := Claim7.holds Tryz.pinned (.plain (OpenSpec.upto namingParsesSpec)) namingParsesUptoCard

/-- THE SECOND FORM's CARD OF 'pintlelaw16.NamingWithin'. -/
def namingWithinUptoCard : Claim7 := { stood := { row := namingWithinUptoRow, standIns := [], harness := (true, "b2b187bdce5ed779f249dc2c01f33edcf54ed5a151f41a38a0e52d1c5745892e"), looks := true }, kinds := [], alts := [], laidByText := true, laidKinds := [.data, .data, .data, .data, .sentinel, .sentinel, .sentinel, .sentinel, .sentinel, .sentinel, .sentinel, .sentinel, .sentinel, .pinned], laidTests := true, laidLooks := .later }
def NamingWithinUptoCardSaid : Prop := Claim7.holds Tryz.pinned (.plain (OpenSpec.upto namingWithinSpec)) namingWithinUptoCard

/-- THE SECOND FORM's CARD OF 'pintlelaw16.NamingPlain'. -/
def namingPlainUptoCard : Claim7 := { stood := { row := namingPlainUptoRow, standIns := [], harness := (true, "b2b187bdce5ed779f249dc2c01f33edcf54ed5a151f41a38a0e52d1c5745892e"), looks := true }, kinds := [], alts := [], laidByText := true, laidKinds := [.data, .data, .data, .data, .sentinel, .sentinel, .sentinel, .sentinel, .sentinel, .sentinel, .sentinel, .sentinel, .sentinel, .pinned], laidTests := true, laidLooks := .later }
def NamingPlainUptoCardSaid : Prop := Claim7.holds Tryz.pinned (.plain (OpenSpec.upto namingPlainSpec)) namingPlainUptoCard

/-- THE SECOND FORM's CARD OF 'pintlelaw16.NamingWorded'. -/
def namingWordedUptoCard : Claim7 := { stood := { row := namingWordedUptoRow, standIns := [], harness := (true, "b2b187bdce5ed779f249dc2c01f33edcf54ed5a151f41a38a0e52d1c5745892e"), looks := true }, kinds := [], alts := [], laidByText := true, laidKinds := [.data, .data, .data, .data, .sentinel, .sentinel, .sentinel, .sentinel, .sentinel, .sentinel, .sentinel, .sentinel, .sentinel, .pinned], laidTests := true, laidLooks := .later }
def NamingWordedUptoCardSaid : Prop := Claim7.holds Tryz.pinned (.plain (OpenSpec.upto namingWordedSpec)) namingWordedUptoCard

/-- THE SECOND FORM's CARD OF 'pintlelaw16.NamingIsNew'. -/
def namingIsNewUptoCard : Claim7 := { stood := { row := namingIsNewUptoRow, standIns := [], harness := (true, "b2b187bdce5ed779f249dc2c01f33edcf54ed5a151f41a38a0e52d1c5745892e"), looks := true }, kinds := [], alts := [], laidByText := true, laidKinds := [.data, .data, .data, .data, .sentinel, .sentinel, .sentinel, .sentinel, .sentinel, .sentinel, .sentinel, .sentinel, .sentinel, .pinned], laidTests := true, laidLooks := .later }
def NamingIsNewUptoCardSaid : Prop := Claim7.holds Tryz.pinned (.plain (OpenSpec.upto namingIsNewSpec)) namingIsNewUptoCard

/-- THE SECOND FORM's CARD OF 'pintlelaw16.NamingPrints'. -/
def namingPrintsUptoCard : Claim7 := { stood := { row := namingPrintsUptoRow, standIns := [], harness := (true, "b2b187bdce5ed779f249dc2c01f33edcf54ed5a151f41a38a0e52d1c5745892e"), looks := true }, kinds := [], alts := [], laidByText := true, laidKinds := [.data, .data, .data, .data, .sentinel, .sentinel, .sentinel, .sentinel, .sentinel, .sentinel, .sentinel, .sentinel, .sentinel, .pinned], laidTests := true, laidLooks := .later }
def NamingPrintsUptoCardSaid : Prop := Claim7.holds Tryz.pinned (.plain (OpenSpec.upto namingPrintsSpec)) namingPrintsUptoCard

/-- THE SECOND FORM's CARD OF 'pintlelaw16.NamingBack'. -/
def namingBackUptoCard : Claim7 := { stood := { row := namingBackUptoRow, standIns := [], harness := (true, "b2b187bdce5ed779f249dc2c01f33edcf54ed5a151f41a38a0e52d1c5745892e"), looks := true }, kinds := [], alts := [], laidByText := true, laidKinds := [.data, .data, .data, .data, .sentinel, .sentinel, .sentinel, .sentinel, .sentinel, .sentinel, .sentinel, .sentinel, .sentinel, .pinned], laidTests := true, laidLooks := .later }
def NamingBackUptoCardSaid : Prop := Claim7.holds Tryz.pinned (.plain (OpenSpec.upto namingBackSpec)) namingBackUptoCard

/-- THE SECOND FORM's CARD OF 'pintlelaw16.NamingAll'. -/
def namingAllUptoCard : Claim7 := { stood := { row := namingAllUptoRow, standIns := [], harness := (true, "b2b187bdce5ed779f249dc2c01f33edcf54ed5a151f41a38a0e52d1c5745892e"), looks := true }, kinds := [], alts := [], laidByText := true, laidKinds := [.data, .data, .data, .data, .sentinel, .sentinel, .sentinel, .sentinel, .sentinel, .sentinel, .sentinel, .sentinel, .sentinel, .pinned], laidTests := true, laidLooks := .later }
def NamingAllUptoCardSaid : Prop := Claim7.holds Tryz.pinned (.plain (OpenSpec.upto namingAllSpec)) namingAllUptoCard
end Rows
end Go.Proofs.YtbdphdgomcabmaaGreatDoor
