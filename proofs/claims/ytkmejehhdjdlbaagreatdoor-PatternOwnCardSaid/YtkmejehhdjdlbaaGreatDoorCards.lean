/-
  DERIVED. GIVEN WITH THE SEED: THE CARDS: each row of YtkmejehhdjdlbaaGreatDoorRows.lean that lists a variable, with what it lists TIED to the program's text (the seventh form; the later family's looks); each row that meets fmt, with fmt's text TOLD by the authors' own Lean function (tested against real Go, not proved from fmt's source: count such statements apart). THE CARD IS WHAT COUNTS. Prove the row's statement (the work); the ties are given (YtkmejehhdjdlbaaGreatDoorTie.lean); close each card by the builder's one call (the guide's Derived/Test/ToyasCard.lean, 'card_holds'). Laid BY PROGRAM, IN A SANDBOX (cutbox-door.mjs). By AI agents, Wed Nov 11 2026. No macro, syntax, notation, axiom, sorry.
-/
import Derived.Test.YtkmejehhdjdlbaaGreatDoorRows
import GoSem.ClaimSeven
namespace Go.Proofs.YtkmejehhdjdlbaaGreatDoor
namespace Rows

/-- THE TIED CARD OF 'pintlelaw17.GradeNames'. -/
def gradeNamesCard : Claim7 := { stood := { row := gradeNamesRow, standIns := [], harness := (true, "bcf72eca009c446decab40032bb06a6aff4e477a5e2baed6204a2083475a37ea"), looks := true }, kinds := [], alts := [], laidByText := true, laidKinds := [.data, .data, .data, .data, .sentinel, .sentinel, .sentinel, .sentinel, .sentinel, .sentinel, .sentinel, .sentinel, .pinned], laidTests := true, laidLooks := .later }
def GradeNamesCardSaid : Prop := Claim7.holds Tryz.pinned (.plain (OpenSpec.ofChange gradeNamesSpec)) gradeNamesCard

/-- THE TIED CARD OF 'pintlelaw15.PatternChecks'. -/
def patternChecksCard : Claim7 := { stood := { row := patternChecksRow, standIns := [], harness := (true, "bcf72eca009c446decab40032bb06a6aff4e477a5e2baed6204a2083475a37ea"), looks := true }, kinds := [], alts := [], laidByText := true, laidKinds := [.data, .data, .data, .data, .sentinel, .sentinel, .sentinel, .sentinel, .sentinel, .sentinel, .sentinel, .sentinel, .pinned], laidTests := true, laidLooks := .later }
def PatternChecksCardSaid : Prop := Claim7.holds Tryz.pinned (.plain (OpenSpec.ofChange patternChecksSpec)) patternChecksCard

/-- THE TIED CARD OF 'pintlelaw15.PatternPrints'. -/
def patternPrintsCard : Claim7 := { stood := { row := patternPrintsRow, standIns := [], harness := (true, "bcf72eca009c446decab40032bb06a6aff4e477a5e2baed6204a2083475a37ea"), looks := true }, kinds := [], alts := [], laidByText := true, laidKinds := [.data, .data, .data, .data, .sentinel, .sentinel, .sentinel, .sentinel, .sentinel, .sentinel, .sentinel, .sentinel, .pinned], laidTests := true, laidLooks := .later }
def PatternPrintsCardSaid : Prop := Claim7.holds Tryz.pinned (.plain (OpenSpec.ofChange patternPrintsSpec)) patternPrintsCard

/-- THE TIED CARD OF 'pintlelaw15.PatternParses'. -/
def patternParsesCard : Claim7 := { stood := { row := patternParsesRow, standIns := [], harness := (true, "bcf72eca009c446decab40032bb06a6aff4e477a5e2baed6204a2083475a37ea"), looks := true }, kinds := [], alts := [], laidByText := true, laidKinds := [.data, .data, .data, .data, .sentinel, .sentinel, .sentinel, .sentinel, .sentinel, .sentinel, .sentinel, .sentinel, .pinned], laidTests := true, laidLooks := .later }
def PatternParsesCardSaid : Prop := Claim7.holds Tryz.pinned (.plain (OpenSpec.ofChange patternParsesSpec)) patternParsesCard

/-- THE TIED CARD OF 'pintlelaw15.PatternFinds'. -/
def patternFindsCard : Claim7 := { stood := { row := patternFindsRow, standIns := [], harness := (true, "bcf72eca009c446decab40032bb06a6aff4e477a5e2baed6204a2083475a37ea"), looks := true }, kinds := [], alts := [], laidByText := true, laidKinds := [.data, .data, .data, .data, .sentinel, .sentinel, .sentinel, .sentinel, .sentinel, .sentinel, .sentinel, .sentinel, .pinned], laidTests := true, laidLooks := .later }
def PatternFindsCardSaid : Prop := Claim7.holds Tryz.pinned (.plain (OpenSpec.ofChange patternFindsSpec)) patternFindsCard

/-- THE TIED CARD OF 'pintlelaw15.PatternAll'. -/
def patternAllCard : Claim7 := { stood := { row := patternAllRow, standIns := [], harness := (true, "bcf72eca009c446decab40032bb06a6aff4e477a5e2baed6204a2083475a37ea"), looks := true }, kinds := [], alts := [], laidByText := true, laidKinds := [.data, .data, .data, .data, .sentinel, .sentinel, .sentinel, .sentinel, .sentinel, .sentinel, .sentinel, .sentinel, .pinned], laidTests := true, laidLooks := .later }
def PatternAllCardSaid : Prop := Claim7.holds Tryz.pinned (.plain (OpenSpec.ofChange patternAllSpec)) patternAllCard

/-- THE TIED CARD OF 'pintlelaw15.PatternModifies'. -/
def patternModifiesCard : Claim7 := { stood := { row := patternModifiesRow, standIns := [], harness := (true, "bcf72eca009c446decab40032bb06a6aff4e477a5e2baed6204a2083475a37ea"), looks := true }, kinds := [], alts := [], laidByText := true, laidKinds := [.data, .data, .data, .data, .sentinel, .sentinel, .sentinel, .sentinel, .sentinel, .sentinel, .sentinel, .sentinel, .pinned], laidTests := true, laidLooks := .later }
def PatternModifiesCardSaid : Prop := Claim7.holds Tryz.pinned (.plain (OpenSpec.ofChange patternModifiesSpec)) patternModifiesCard

/-- THE TIED CARD OF 'pintlelaw15.PatternReturns'. -/
def patternReturnsCard : Claim7 := { stood := { row := patternReturnsRow, standIns := [], harness := (true, "bcf72eca009c446decab40032bb06a6aff4e477a5e2baed6204a2083475a37ea"), looks := true }, kinds := [], alts := [], laidByText := true, laidKinds := [.data, .data, .data, .data, .sentinel, .sentinel, .sentinel, .sentinel, .sentinel, .sentinel, .sentinel, .sentinel, .pinned], laidTests := true, laidLooks := .later }
def PatternReturnsCardSaid : Prop := Claim7.holds Tryz.pinned (.plain (OpenSpec.ofChange patternReturnsSpec)) patternReturnsCard

/-- THE TIED CARD OF 'pintlelaw15.PatternOnce'. -/
def patternOnceCard : Claim7 := { stood := { row := patternOnceRow, standIns := [], harness := (true, "bcf72eca009c446decab40032bb06a6aff4e477a5e2baed6204a2083475a37ea"), looks := true }, kinds := [], alts := [], laidByText := true, laidKinds := [.data, .data, .data, .data, .sentinel, .sentinel, .sentinel, .sentinel, .sentinel, .sentinel, .sentinel, .sentinel, .pinned], laidTests := true, laidLooks := .later }
def PatternOnceCardSaid : Prop := Claim7.holds Tryz.pinned (.plain (OpenSpec.ofChange patternOnceSpec)) patternOnceCard

/-- THE TIED CARD OF 'pintlelaw15.PatternTable'. -/
def patternTableCard : Claim7 := { stood := { row := patternTableRow, standIns := [], harness := (true, "bcf72eca009c446decab40032bb06a6aff4e477a5e2baed6204a2083475a37ea"), looks := true }, kinds := [], alts := [], laidByText := true, laidKinds := [.data, .data, .data, .data, .sentinel, .sentinel, .sentinel, .sentinel, .sentinel, .sentinel, .sentinel, .sentinel, .pinned], laidTests := true, laidLooks := .later }
def PatternTableCardSaid : Prop := Claim7.holds Tryz.pinned (.plain (OpenSpec.ofChange patternTableSpec)) patternTableCard

/-- THE TIED CARD OF 'pintlelaw15.PatternOwn'. -/
def patternOwnCard : Claim7 := { stood := { row := patternOwnRow, standIns := [], harness := (true, "bcf72eca009c446decab40032bb06a6aff4e477a5e2baed6204a2083475a37ea"), looks := true }, kinds := [], alts := [], laidByText := true, laidKinds := [.data, .data, .data, .data, .sentinel, .sentinel, .sentinel, .sentinel, .sentinel, .sentinel, .sentinel, .sentinel, .pinned], laidTests := true, laidLooks := .later }
def PatternOwnCardSaid : Prop := Claim7.holds Tryz.pinned (.plain (OpenSpec.ofChange patternOwnSpec)) patternOwnCard

/-- THE SECOND FORM's CARD OF 'pintlelaw17.GradeNames'. -/
def gradeNamesUptoCard : Claim7 := { stood := { row := gradeNamesUptoRow, standIns := [], harness := (true, "bcf72eca009c446decab40032bb06a6aff4e477a5e2baed6204a2083475a37ea"), looks := true }, kinds := [], alts := [], laidByText := true, laidKinds := [.data, .data, .data, .data, .sentinel, .sentinel, .sentinel, .sentinel, .sentinel, .sentinel, .sentinel, .sentinel, .pinned], laidTests := true, laidLooks := .later }
def GradeNamesUptoCardSaid : Prop := Claim7.holds Tryz.pinned (.plain (OpenSpec.upto gradeNamesSpec)) gradeNamesUptoCard

/-- THE SECOND FORM's CARD OF 'pintlelaw15.PatternChecks'. -/
def patternChecksUptoCard : Claim7 := { stood := { row := patternChecksUptoRow, standIns := [], harness := (true, "bcf72eca009c446decab40032bb06a6aff4e477a5e2baed6204a2083475a37ea"), looks := true }, kinds := [], alts := [], laidByText := true, laidKinds := [.data, .data, .data, .data, .sentinel, .sentinel, .sentinel, .sentinel, .sentinel, .sentinel, .sentinel, .sentinel, .pinned], laidTests := true, laidLooks := .later }
def PatternChecksUptoCardSaid : Prop := Claim7.holds Tryz.pinned (.plain (OpenSpec.upto patternChecksSpec)) patternChecksUptoCard

/-- THE SECOND FORM's CARD OF 'pintlelaw15.PatternPrints'. -/
def patternPrintsUptoCard : Claim7 := { stood := { row := patternPrintsUptoRow, standIns := [], harness := (true, "bcf72eca009c446decab40032bb06a6aff4e477a5e2baed6204a2083475a37ea"), looks := true }, kinds := [], alts := [], laidByText := true, laidKinds := [.data, .data, .data, .data, .sentinel, .sentinel, .sentinel, .sentinel, .sentinel, .sentinel, .sentinel, .sentinel, .pinned], laidTests := true, laidLooks := .later }
def PatternPrintsUptoCardSaid : Prop := Claim7.holds Tryz.pinned (.plain (OpenSpec.upto patternPrintsSpec)) patternPrintsUptoCard

/-- THE SECOND FORM's CARD OF 'pintlelaw15.PatternParses'. -/
def patternParsesUptoCard : Claim7 := { stood := { row := patternParsesUptoRow, standIns := [], harness := (true, "bcf72eca009c446decab40032bb06a6aff4e477a5e2baed6204a2083475a37ea"), looks := true }, kinds := [], alts := [], laidByText := true, laidKinds := [.data, .data, .data, .data, .sentinel, .sentinel, .sentinel, .sentinel, .sentinel, .sentinel, .sentinel, .sentinel, .pinned], laidTests := true, laidLooks := .later }
def PatternParsesUptoCardSaid : Prop := Claim7.holds Tryz.pinned (.plain (OpenSpec.upto patternParsesSpec)) patternParsesUptoCard

/-- THE SECOND FORM's CARD OF 'pintlelaw15.PatternFinds'. -/
def patternFindsUptoCard : Claim7 := { stood := { row := patternFindsUptoRow, standIns := [], harness := (true, "bcf72eca009c446decab40032bb06a6aff4e477a5e2baed6204a2083475a37ea"), looks := true }, kinds := [], alts := [], laidByText := true, laidKinds := [.data, .data, .data, .data, .sentinel, .sentinel, .sentinel, .sentinel, .sentinel, .sentinel, .sentinel, .sentinel, .pinned], laidTests := true, laidLooks := .later }
def PatternFindsUptoCardSaid : Prop := Claim7.holds Tryz.pinned (.plain (OpenSpec.upto patternFindsSpec)) patternFindsUptoCard

/-- THE SECOND FORM's CARD OF 'pintlelaw15.PatternAll'. -/
def patternAllUptoCard : Claim7 := { stood := { row := patternAllUptoRow, standIns := [], harness := (true, "bcf72eca009c446decab40032bb06a6aff4e477a5e2baed6204a2083475a37ea"), looks := true }, kinds := [], alts := [], laidByText := true, laidKinds := [.data, .data, .data, .data, .sentinel, .sentinel, .sentinel, .sentinel, .sentinel, .sentinel, .sentinel, .sentinel, .pinned], laidTests := true, laidLooks := .later }
def PatternAllUptoCardSaid : Prop := Claim7.holds Tryz.pinned (.plain (OpenSpec.upto patternAllSpec)) patternAllUptoCard

/-- THE SECOND FORM's CARD OF 'pintlelaw15.PatternModifies'. -/
def patternModifiesUptoCard : Claim7 := { stood := { row := patternModifiesUptoRow, standIns := [], harness := (true, "bcf72eca009c446decab40032bb06a6aff4e477a5e2baed6204a2083475a37ea"), looks := true }, kinds := [], alts := [], laidByText := true, laidKinds := [.data, .data, .data, .data, .sentinel, .sentinel, .sentinel, .sentinel, .sentinel, .sentinel, .sentinel, .sentinel, .pinned], laidTests := true, laidLooks := .later }
def PatternModifiesUptoCardSaid : Prop := Claim7.holds Tryz.pinned (.plain (OpenSpec.upto patternModifiesSpec)) patternModifiesUptoCard

/-- THE SECOND FORM's CARD OF 'pintlelaw15.PatternReturns'. -/
def patternReturnsUptoCard : Claim7 := { stood := { row := patternReturnsUptoRow, standIns := [], harness := (true, "bcf72eca009c446decab40032bb06a6aff4e477a5e2baed6204a2083475a37ea"), looks := true }, kinds := [], alts := [], laidByText := true, laidKinds := [.data, .data, .data, .data, .sentinel, .sentinel, .sentinel, .sentinel, .sentinel, .sentinel, .sentinel, .sentinel, .pinned], laidTests := true, laidLooks := .later }
def PatternReturnsUptoCardSaid : Prop := Claim7.holds Tryz.pinned (.plain (OpenSpec.upto patternReturnsSpec)) patternReturnsUptoCard

/-- THE SECOND FORM's CARD OF 'pintlelaw15.PatternOnce'. -/
def patternOnceUptoCard : Claim7 := { stood := { row := patternOnceUptoRow, standIns := [], harness := (true, "bcf72eca009c446decab40032bb06a6aff4e477a5e2baed6204a2083475a37ea"), looks := true }, kinds := [], alts := [], laidByText := true, laidKinds := [.data, .data, .data, .data, .sentinel, .sentinel, .sentinel, .sentinel, .sentinel, .sentinel, .sentinel, .sentinel, .pinned], laidTests := true, laidLooks := .later }
def PatternOnceUptoCardSaid : Prop := Claim7.holds Tryz.pinned (.plain (OpenSpec.upto patternOnceSpec)) patternOnceUptoCard

/-- THE SECOND FORM's CARD OF 'pintlelaw15.PatternTable'. -/
def patternTableUptoCard : Claim7 := { stood := { row := patternTableUptoRow, standIns := [], harness := (true, "bcf72eca009c446decab40032bb06a6aff4e477a5e2baed6204a2083475a37ea"), looks := true }, kinds := [], alts := [], laidByText := true, laidKinds := [.data, .data, .data, .data, .sentinel, .sentinel, .sentinel, .sentinel, .sentinel, .sentinel, .sentinel, .sentinel, .pinned], laidTests := true, laidLooks := .later }
def PatternTableUptoCardSaid : Prop := Claim7.holds Tryz.pinned (.plain (OpenSpec.upto patternTableSpec)) patternTableUptoCard

/-- THE SECOND FORM's CARD OF 'pintlelaw15.PatternOwn'. -/
def patternOwnUptoCard : Claim7 := { stood := { row := patternOwnUptoRow, standIns := [], harness := (true, "bcf72eca009c446decab40032bb06a6aff4e477a5e2baed6204a2083475a37ea"), looks := true }, kinds := [], alts := [], laidByText := true, laidKinds := [.data, .data, .data, .data, .sentinel, .sentinel, .sentinel, .sentinel, .sentinel, .sentinel, .sentinel, .sentinel, .pinned], laidTests := true, laidLooks := .later }
def PatternOwnUptoCardSaid : Prop := Claim7.holds Tryz.pinned (.plain (OpenSpec.upto patternOwnSpec)) patternOwnUptoCard
end Rows
end Go.Proofs.YtkmejehhdjdlbaaGreatDoor
