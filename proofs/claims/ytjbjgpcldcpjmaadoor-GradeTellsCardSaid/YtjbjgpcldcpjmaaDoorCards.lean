/-
  DERIVED. GIVEN WITH THE SEED: THE CARDS: each row of YtjbjgpcldcpjmaaDoorRows.lean that lists a variable, with what it lists TIED to the program's text (the seventh form; the later family's looks); each row that meets fmt, with fmt's text TOLD by the authors' own Lean function (tested against real Go, not proved from fmt's source: count such statements apart). THE CARD IS WHAT COUNTS. Prove the row's statement (the work); the ties are given (YtjbjgpcldcpjmaaDoorTie.lean); close each card by the builder's one call (the guide's Derived/Test/ToyasCard.lean, 'card_holds'). Laid BY PROGRAM, IN A SANDBOX (cutbox-door.mjs). By AI agents, Wed Nov 11 2026. No macro, syntax, notation, axiom, sorry.
-/
import Derived.Test.YtjbjgpcldcpjmaaDoorRows
import GoSem.ClaimSeven
namespace Go.Proofs.YtjbjgpcldcpjmaaDoor
namespace Rows

/-- THE TIED CARD OF 'pintlelaw17.GradeTells'. -/
def gradeTellsCard : Claim7 := { stood := { row := gradeTellsRow, standIns := [], harness := (true, "77ef2c24d89bee1a78dc7d61e210530443726761dc37bdcf03641b6bb430db80"), looks := true }, kinds := [], alts := [], laidByText := true, laidKinds := [.data, .sentinel, .sentinel, .sentinel, .sentinel, .sentinel, .sentinel, .pinned], laidTests := true, laidLooks := .later }
def GradeTellsCardSaid : Prop := Claim7.holds Tryd.pinned (.plain (OpenSpec.ofChange gradeTellsSpec)) gradeTellsCard

/-- THE TIED CARD OF 'pintlelaw17.GradeRises'. -/
def gradeRisesCard : Claim7 := { stood := { row := gradeRisesRow, standIns := [], harness := (true, "77ef2c24d89bee1a78dc7d61e210530443726761dc37bdcf03641b6bb430db80"), looks := true }, kinds := [], alts := [], laidByText := true, laidKinds := [.data, .sentinel, .sentinel, .sentinel, .sentinel, .sentinel, .sentinel, .pinned], laidTests := true, laidLooks := .later }
def GradeRisesCardSaid : Prop := Claim7.holds Tryd.pinned (.plain (OpenSpec.ofChange gradeRisesSpec)) gradeRisesCard

/-- THE TIED CARD OF 'pintlelaw17.GradeNeeds'. -/
def gradeNeedsCard : Claim7 := { stood := { row := gradeNeedsRow, standIns := [], harness := (true, "77ef2c24d89bee1a78dc7d61e210530443726761dc37bdcf03641b6bb430db80"), looks := true }, kinds := [], alts := [], laidByText := true, laidKinds := [.data, .sentinel, .sentinel, .sentinel, .sentinel, .sentinel, .sentinel, .pinned], laidTests := true, laidLooks := .later }
def GradeNeedsCardSaid : Prop := Claim7.holds Tryd.pinned (.plain (OpenSpec.ofChange gradeNeedsSpec)) gradeNeedsCard

/-- THE TIED CARD OF 'pintlelaw17.GradeOwn'. -/
def gradeOwnCard : Claim7 := { stood := { row := gradeOwnRow, standIns := [], harness := (true, "77ef2c24d89bee1a78dc7d61e210530443726761dc37bdcf03641b6bb430db80"), looks := true }, kinds := [], alts := [], laidByText := true, laidKinds := [.data, .sentinel, .sentinel, .sentinel, .sentinel, .sentinel, .sentinel, .pinned], laidTests := true, laidLooks := .later }
def GradeOwnCardSaid : Prop := Claim7.holds Tryd.pinned (.plain (OpenSpec.ofChange gradeOwnSpec)) gradeOwnCard

/-- THE TIED CARD OF 'pintlelaw17.GradeTable'. -/
def gradeTableCard : Claim7 := { stood := { row := gradeTableRow, standIns := [], harness := (true, "77ef2c24d89bee1a78dc7d61e210530443726761dc37bdcf03641b6bb430db80"), looks := true }, kinds := [], alts := [], laidByText := true, laidKinds := [.data, .sentinel, .sentinel, .sentinel, .sentinel, .sentinel, .sentinel, .pinned], laidTests := true, laidLooks := .later }
def GradeTableCardSaid : Prop := Claim7.holds Tryd.pinned (.plain (OpenSpec.ofChange gradeTableSpec)) gradeTableCard

/-- THE SECOND FORM's CARD OF 'pintlelaw17.GradeTells'. -/
def gradeTellsUptoCard : Claim7 := { stood := { row := gradeTellsUptoRow, standIns := [], harness := (true, "77ef2c24d89bee1a78dc7d61e210530443726761dc37bdcf03641b6bb430db80"), looks := true }, kinds := [], alts := [], laidByText := true, laidKinds := [.data, .sentinel, .sentinel, .sentinel, .sentinel, .sentinel, .sentinel, .pinned], laidTests := true, laidLooks := .later }
def GradeTellsUptoCardSaid : Prop := Claim7.holds Tryd.pinned (.plain (OpenSpec.upto gradeTellsSpec)) gradeTellsUptoCard

/-- THE SECOND FORM's CARD OF 'pintlelaw17.GradeRises'. -/
def gradeRisesUptoCard : Claim7 := { stood := { row := gradeRisesUptoRow, standIns := [], harness := (true, "77ef2c24d89bee1a78dc7d61e210530443726761dc37bdcf03641b6bb430db80"), looks := true }, kinds := [], alts := [], laidByText := true, laidKinds := [.data, .sentinel, .sentinel, .sentinel, .sentinel, .sentinel, .sentinel, .pinned], laidTests := true, laidLooks := .later }
def GradeRisesUptoCardSaid : Prop := Claim7.holds Tryd.pinned (.plain (OpenSpec.upto gradeRisesSpec)) gradeRisesUptoCard

/-- THE SECOND FORM's CARD OF 'pintlelaw17.GradeNeeds'. -/
def gradeNeedsUptoCard : Claim7 := { stood := { row := gradeNeedsUptoRow, standIns := [], harness := (true, "77ef2c24d89bee1a78dc7d61e210530443726761dc37bdcf03641b6bb430db80"), looks := true }, kinds := [], alts := [], laidByText := true, laidKinds := [.data, .sentinel, .sentinel, .sentinel, .sentinel, .sentinel, .sentinel, .pinned], laidTests := true, laidLooks := .later }
def GradeNeedsUptoCardSaid : Prop := Claim7.holds Tryd.pinned (.plain (OpenSpec.upto gradeNeedsSpec)) gradeNeedsUptoCard

/-- THE SECOND FORM's CARD OF 'pintlelaw17.GradeOwn'. -/
def gradeOwnUptoCard : Claim7 := { stood := { row := gradeOwnUptoRow, standIns := [], harness := (true, "77ef2c24d89bee1a78dc7d61e210530443726761dc37bdcf03641b6bb430db80"), looks := true }, kinds := [], alts := [], laidByText := true, laidKinds := [.data, .sentinel, .sentinel, .sentinel, .sentinel, .sentinel, .sentinel, .pinned], laidTests := true, laidLooks := .later }
def GradeOwnUptoCardSaid : Prop := Claim7.holds Tryd.pinned (.plain (OpenSpec.upto gradeOwnSpec)) gradeOwnUptoCard

/-- THE SECOND FORM's CARD OF 'pintlelaw17.GradeTable'. -/
def gradeTableUptoCard : Claim7 := { stood := { row := gradeTableUptoRow, standIns := [], harness := (true, "77ef2c24d89bee1a78dc7d61e210530443726761dc37bdcf03641b6bb430db80"), looks := true }, kinds := [], alts := [], laidByText := true, laidKinds := [.data, .sentinel, .sentinel, .sentinel, .sentinel, .sentinel, .sentinel, .pinned], laidTests := true, laidLooks := .later }
def GradeTableUptoCardSaid : Prop := Claim7.holds Tryd.pinned (.plain (OpenSpec.upto gradeTableSpec)) gradeTableUptoCard
end Rows
end Go.Proofs.YtjbjgpcldcpjmaaDoor
