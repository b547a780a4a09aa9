/-
  DERIVED. GIVEN WITH THE SEED: THE CARDS: each row of YtpemfmjplejdiaaDoorRows.lean that lists a variable, with what it lists TIED to the program's text (the seventh form; the later family's looks); each row that meets fmt, with fmt's text TOLD by the authors' own Lean function (tested against real Go, not proved from fmt's source: count such statements apart). THE CARD IS WHAT COUNTS. Prove the row's statement (the work); the ties are given (YtpemfmjplejdiaaDoorTie.lean); close each card by the builder's one call (the guide's Derived/Test/ToyasCard.lean, 'card_holds'). Laid BY PROGRAM, IN A SANDBOX (cutbox-door.mjs). By AI agents, Wed Nov 11 2026. No macro, syntax, notation, axiom, sorry.
-/
import Derived.Test.YtpemfmjplejdiaaDoorRows
import GoSem.ClaimSeven
namespace Go.Proofs.YtpemfmjplejdiaaDoor
namespace Rows

/-- THE TIED CARD OF 'pintlelaw23.PlanUnrolls'. -/
def planUnrollsCard : Claim7 := { stood := { row := planUnrollsRow, standIns := [], harness := (true, "f355d1b3cfd9cb06987d96a157a306a1e410b9fd07973f14d70c04fc5b622a01"), looks := true }, kinds := [], alts := [], laidByText := true, laidKinds := [.sentinel, .sentinel, .sentinel, .sentinel, .sentinel, .sentinel, .sentinel, .sentinel], laidTests := true, laidLooks := .later }
def PlanUnrollsCardSaid : Prop := Claim7.holds Tryd.pinned (.plain (OpenSpec.ofChange planUnrollsSpec)) planUnrollsCard

/-- THE TIED CARD OF 'pintlelaw23.PlanMirrors'. -/
def planMirrorsCard : Claim7 := { stood := { row := planMirrorsRow, standIns := [], harness := (true, "f355d1b3cfd9cb06987d96a157a306a1e410b9fd07973f14d70c04fc5b622a01"), looks := true }, kinds := [], alts := [], laidByText := true, laidKinds := [.sentinel, .sentinel, .sentinel, .sentinel], laidTests := true, laidLooks := .later }
def PlanMirrorsCardSaid : Prop := Claim7.holds Tryd.pinned (.plain (OpenSpec.ofChange planMirrorsSpec)) planMirrorsCard

/-- THE TIED CARD OF 'pintlelaw23.PlanUnlike'. -/
def planUnlikeCard : Claim7 := { stood := { row := planUnlikeRow, standIns := [], harness := (true, "f355d1b3cfd9cb06987d96a157a306a1e410b9fd07973f14d70c04fc5b622a01"), looks := true }, kinds := [], alts := [], laidByText := true, laidKinds := [.sentinel, .sentinel, .sentinel, .sentinel], laidTests := true, laidLooks := .later }
def PlanUnlikeCardSaid : Prop := Claim7.holds Tryd.pinned (.plain (OpenSpec.ofChange planUnlikeSpec)) planUnlikeCard

/-- THE TIED CARD OF 'pintlelaw23.PlanRolls'. -/
def planRollsCard : Claim7 := { stood := { row := planRollsRow, standIns := [], harness := (true, "f355d1b3cfd9cb06987d96a157a306a1e410b9fd07973f14d70c04fc5b622a01"), looks := true }, kinds := [], alts := [], laidByText := true, laidKinds := [.sentinel, .sentinel, .sentinel, .sentinel, .sentinel, .sentinel, .sentinel, .sentinel], laidTests := true, laidLooks := .later }
def PlanRollsCardSaid : Prop := Claim7.holds Tryd.pinned (.plain (OpenSpec.ofChange planRollsSpec)) planRollsCard

/-- THE TIED CARD OF 'pintlelaw23.PlanBack'. -/
def planBackCard : Claim7 := { stood := { row := planBackRow, standIns := [], harness := (true, "f355d1b3cfd9cb06987d96a157a306a1e410b9fd07973f14d70c04fc5b622a01"), looks := true }, kinds := [], alts := [], laidByText := true, laidKinds := [.sentinel, .sentinel, .sentinel, .sentinel], laidTests := true, laidLooks := .later }
def PlanBackCardSaid : Prop := Claim7.holds Tryd.pinned (.plain (OpenSpec.ofChange planBackSpec)) planBackCard

/-- THE TIED CARD OF 'pintlelaw23.PlanIsNew'. -/
def planIsNewCard : Claim7 := { stood := { row := planIsNewRow, standIns := [], harness := (true, "f355d1b3cfd9cb06987d96a157a306a1e410b9fd07973f14d70c04fc5b622a01"), looks := true }, kinds := [], alts := [], laidByText := true, laidKinds := [.sentinel, .sentinel, .sentinel, .sentinel, .sentinel, .sentinel, .sentinel, .sentinel], laidTests := true, laidLooks := .later }
def PlanIsNewCardSaid : Prop := Claim7.holds Tryd.pinned (.plain (OpenSpec.ofChange planIsNewSpec)) planIsNewCard

/-- THE SECOND FORM's CARD OF 'pintlelaw23.PlanUnrolls'. -/
def planUnrollsUptoCard : Claim7 := { stood := { row := planUnrollsUptoRow, standIns := [], harness := (true, "f355d1b3cfd9cb06987d96a157a306a1e410b9fd07973f14d70c04fc5b622a01"), looks := true }, kinds := [], alts := [], laidByText := true, laidKinds := [.sentinel, .sentinel, .sentinel, .sentinel, .sentinel, .sentinel, .sentinel, .sentinel], laidTests := true, laidLooks := .later }
def PlanUnrollsUptoCardSaid : Prop := Claim7.holds Tryd.pinned (.plain (OpenSpec.upto planUnrollsSpec)) planUnrollsUptoCard

/-- THE SECOND FORM's CARD OF 'pintlelaw23.PlanMirrors'. -/
def planMirrorsUptoCard : Claim7 := { stood := { row := planMirrorsUptoRow, standIns := [], harness := (true, "f355d1b3cfd9cb06987d96a157a306a1e410b9fd07973f14d70c04fc5b622a01"), looks := true }, kinds := [], alts := [], laidByText := true, laidKinds := [.sentinel, .sentinel, .sentinel, .sentinel], laidTests := true, laidLooks := .later }
def PlanMirrorsUptoCardSaid : Prop := Claim7.holds Tryd.pinned (.plain (OpenSpec.upto planMirrorsSpec)) planMirrorsUptoCard

/-- THE SECOND FORM's CARD OF 'pintlelaw23.PlanUnlike'. -/
def planUnlikeUptoCard : Claim7 := { stood := { row := planUnlikeUptoRow, standIns := [], harness := (true, "f355d1b3cfd9cb06987d96a157a306a1e410b9fd07973f14d70c04fc5b622a01"), looks := true }, kinds := [], alts := [], laidByText := true, laidKinds := [.sentinel, .sentinel, .sentinel, .sentinel], laidTests := true, laidLooks := .later }
def PlanUnlikeUptoCardSaid : Prop := Claim7.holds Tryd.pinned (.plain (OpenSpec.upto planUnlikeSpec)) planUnlikeUptoCard

/-- THE SECOND FORM's CARD OF 'pintlelaw23.PlanRolls'. -/
def planRollsUptoCard : Claim7 := { stood := { row := planRollsUptoRow, standIns := [], harness := (true, "f355d1b3cfd9cb06987d96a157a306a1e410b9fd07973f14d70c04fc5b622a01"), looks := true }, kinds := [], alts := [], laidByText := true, laidKinds := [.sentinel, .sentinel, .sentinel, .sentinel, .sentinel, .sentinel, .sentinel, .sentinel], laidTests := true, laidLooks := .later }
def PlanRollsUptoCardSaid : Prop := Claim7.holds Tryd.pinned (.plain (OpenSpec.upto planRollsSpec)) planRollsUptoCard

/-- THE SECOND FORM's CARD OF 'pintlelaw23.PlanBack'. -/
def planBackUptoCard : Claim7 := { stood := { row := planBackUptoRow, standIns := [], harness := (true, "f355d1b3cfd9cb06987d96a157a306a1e410b9fd07973f14d70c04fc5b622a01"), looks := true }, kinds := [], alts := [], laidByText := true, laidKinds := [.sentinel, .sentinel, .sentinel, .sentinel], laidTests := true, laidLooks := .later }
def PlanBackUptoCardSaid : Prop := Claim7.holds Tryd.pinned (.plain (OpenSpec.upto planBackSpec)) planBackUptoCard

/-- THE SECOND FORM's CARD OF 'pintlelaw23.PlanIsNew'. -/
def planIsNewUptoCard : Claim7 := { stood := { row := planIsNewUptoRow, standIns := [], harness := (true, "f355d1b3cfd9cb06987d96a157a306a1e410b9fd07973f14d70c04fc5b622a01"), looks := true }, kinds := [], alts := [], laidByText := true, laidKinds := [.sentinel, .sentinel, .sentinel, .sentinel, .sentinel, .sentinel, .sentinel, .sentinel], laidTests := true, laidLooks := .later }
def PlanIsNewUptoCardSaid : Prop := Claim7.holds Tryd.pinned (.plain (OpenSpec.upto planIsNewSpec)) planIsNewUptoCard
end Rows
end Go.Proofs.YtpemfmjplejdiaaDoor
