/-
  NARROWER THAN 'FOR EVERY INPUT', by the rows' own cells (each row's printed sentence says how): GradeTells: laid · GradeRises: laid · GradeNeeds: laid · GradeOwn: laid · GradeTable: laid.
  DERIVED. THE GIVEN ROWS OF THIS SEAT. 5 by the template 'for every input the law returns true; each argument reads behind the call as it read before'; 0 by the template 'total and deterministic' (their statements: YtjbjgpcldcpjmaaDoorTotals.lean).
  GIVEN WITH THE SEED: the statements are not yours to turn. If you find one false, say at which input.
  Laid BY PROGRAM, IN A SANDBOX (cutbox-rows.mjs): the forced cells as the released guide's own fill.sh prints them over the translation 471e758e8609a9d3… (all of the seat's roots in one cut). By AI agents, Wed Nov 11 2026. No macro, syntax, notation, axiom, sorry.
-/
import Derived.Test.YtjbjgpcldcpjmaaDoorChecked
import GoSem.PinnedTables
import GoSem.Claim
import GoSem.ClaimJoined
import GoSem.ClaimMapViews
import Derived.JoinedTies
import Derived.KernelRfl
namespace Go.Proofs.YtjbjgpcldcpjmaaDoor
/- THE CELL 'sum', in the pinned program and in every row, IS THE sha256 OF THE DUMP (.gsa) THAT YtjbjgpcldcpjmaaDoorProg.lean LOADS. Nothing in Lean hashes anything: it is a label: what it is worth is what the hold of that sum in a sandbox is worth. -/
noncomputable def Tryd.pinned : Pinned := { name := "ytjbjgpcldcpjmaadoor", sum := "471e758e8609a9d30cb6a358ef0277090eb8a99aa8616e6c312a1f5820d6b7f9", checked := Tryd.checked }
namespace Rows
def none {H : Type} : Left H := { results := [], args := [] }

/- WHAT THE LISTED PACKAGE-LEVEL VARIABLES READ AS WHEN THE CALL BEGINS. Each datum BY PROGRAM (the guide's laid-datum.mjs) off the statement by which the dump's own 'gosem.cut.vars' lays the variable. In a bare row this is a premise. The card (YtjbjgpcldcpjmaaDoorCards.lean) ties it to the program's text. -/
def laid_unicode_utf8_acceptRanges {H : Type} : DataW H := .agg [.agg [.lit (.int .u8 128), .lit (.int .u8 191)], .agg [.lit (.int .u8 160), .lit (.int .u8 191)], .agg [.lit (.int .u8 128), .lit (.int .u8 159)], .agg [.lit (.int .u8 144), .lit (.int .u8 191)], .agg [.lit (.int .u8 128), .lit (.int .u8 143)], .agg [.lit (.int .u8 0), .lit (.int .u8 0)], .agg [.lit (.int .u8 0), .lit (.int .u8 0)], .agg [.lit (.int .u8 0), .lit (.int .u8 0)], .agg [.lit (.int .u8 0), .lit (.int .u8 0)], .agg [.lit (.int .u8 0), .lit (.int .u8 0)], .agg [.lit (.int .u8 0), .lit (.int .u8 0)], .agg [.lit (.int .u8 0), .lit (.int .u8 0)], .agg [.lit (.int .u8 0), .lit (.int .u8 0)], .agg [.lit (.int .u8 0), .lit (.int .u8 0)], .agg [.lit (.int .u8 0), .lit (.int .u8 0)], .agg [.lit (.int .u8 0), .lit (.int .u8 0)]]
def laid_pintle_api_ErrArg {H : Type} : DataW H := .iface "*errors.errorString" (.ptr (.agg [.lit (.string [112, 105, 110, 116, 108, 101, 58, 32, 97, 114, 103, 117, 109, 101, 110, 116])]))
def laid_pintle_api_ErrText {H : Type} : DataW H := .iface "*errors.errorString" (.ptr (.agg [.lit (.string [112, 105, 110, 116, 108, 101, 58, 32, 110, 111, 32, 112, 97, 116, 116, 101, 114, 110])]))
def laid_pintle_api_ErrInvalid {H : Type} : DataW H := .iface "*errors.errorString" (.ptr (.agg [.lit (.string [112, 105, 110, 116, 108, 101, 58, 32, 112, 97, 116, 116, 101, 114, 110, 32, 105, 110, 118, 97, 108, 105, 100])]))
def laid_pintle_api_ErrTwice {H : Type} : DataW H := .iface "*errors.errorString" (.ptr (.agg [.lit (.string [112, 105, 110, 116, 108, 101, 58, 32, 116, 119, 105, 99, 101])]))
def laid_pintle_api_ErrLacks {H : Type} : DataW H := .iface "*errors.errorString" (.ptr (.agg [.lit (.string [112, 105, 110, 116, 108, 101, 58, 32, 108, 97, 99, 107, 115])]))
def laid_pintle_api_ErrUnsafe {H : Type} : DataW H := .iface "*errors.errorString" (.ptr (.agg [.lit (.string [112, 105, 110, 116, 108, 101, 58, 32, 117, 110, 115, 97, 102, 101])]))
/-- One of Go's own tables, pinned by name: the form's constant. -/
def laid_unicode_utf8_first : DataW Unit := Go.Pinned.utf8First

/-- 'pintlelaw17.GradeTells': WHATEVER THE INPUT: true; the input reads as it did. -/
def gradeTellsSpec : ChangeSpec := { name := "gradeTells", fn := fun _ => fun
  | [d1, d2, d3] => { results := [.lit (.bool true)], args := [d1, d2, d3] }
  | _ => none }
def gradeTellsRow : OpenClaim := { program := "ytjbjgpcldcpjmaadoor", sum := "471e758e8609a9d30cb6a358ef0277090eb8a99aa8616e6c312a1f5820d6b7f9", func := "pintle/pintlelaw17.GradeTells", spec := "gradeTells", inPlace := ["internal/bytealg.CountString", "internal/bytealg.IndexByteString", "internal/bytealg.IndexString"], unfollowed := true, recurses := true, named := ["pintle/api.ErrArg", "pintle/api.ErrInvalid", "pintle/api.ErrUnsafe", "pintle/api.ErrTwice", "pintle/api.ErrLacks", "unicode/utf8.first", "unicode/utf8.acceptRanges", "internal/bytealg.MaxLen", "pintle/api.ErrText"], apart := false, laid := [("unicode/utf8.acceptRanges", laid_unicode_utf8_acceptRanges), ("pintle/api.ErrArg", laid_pintle_api_ErrArg), ("pintle/api.ErrText", laid_pintle_api_ErrText), ("pintle/api.ErrInvalid", laid_pintle_api_ErrInvalid), ("pintle/api.ErrTwice", laid_pintle_api_ErrTwice), ("pintle/api.ErrLacks", laid_pintle_api_ErrLacks), ("pintle/api.ErrUnsafe", laid_pintle_api_ErrUnsafe), ("unicode/utf8.first", laid_unicode_utf8_first)] }
def GradeTellsSaid : Prop := gradeTellsRow.holds Tryd.pinned (OpenSpec.ofChange gradeTellsSpec)

/-- ITS FALSE NEIGHBOUR: 'it returns false'. Refute it at one input. -/
def gradeTellsWrong : ChangeSpec := { name := "gradeTells", fn := fun _ => fun
  | [d1, d2, d3] => { results := [.lit (.bool false)], args := [d1, d2, d3] }
  | _ => none }
def GradeTellsWrongFalsely : Prop := gradeTellsRow.holds Tryd.pinned (OpenSpec.ofChange gradeTellsWrong)

/-- 'pintlelaw17.GradeRises': WHATEVER THE INPUT: true; the input reads as it did. -/
def gradeRisesSpec : ChangeSpec := { name := "gradeRises", fn := fun _ => fun
  | [d1, d2] => { results := [.lit (.bool true)], args := [d1, d2] }
  | _ => none }
def gradeRisesRow : OpenClaim := { program := "ytjbjgpcldcpjmaadoor", sum := "471e758e8609a9d30cb6a358ef0277090eb8a99aa8616e6c312a1f5820d6b7f9", func := "pintle/pintlelaw17.GradeRises", spec := "gradeRises", inPlace := ["internal/bytealg.CountString", "internal/bytealg.IndexByteString", "internal/bytealg.IndexString"], unfollowed := true, recurses := true, named := ["pintle/api.ErrArg", "pintle/api.ErrInvalid", "pintle/api.ErrUnsafe", "pintle/api.ErrTwice", "pintle/api.ErrLacks", "unicode/utf8.first", "unicode/utf8.acceptRanges", "internal/bytealg.MaxLen", "pintle/api.ErrText"], apart := false, laid := [("unicode/utf8.acceptRanges", laid_unicode_utf8_acceptRanges), ("pintle/api.ErrArg", laid_pintle_api_ErrArg), ("pintle/api.ErrText", laid_pintle_api_ErrText), ("pintle/api.ErrInvalid", laid_pintle_api_ErrInvalid), ("pintle/api.ErrTwice", laid_pintle_api_ErrTwice), ("pintle/api.ErrLacks", laid_pintle_api_ErrLacks), ("pintle/api.ErrUnsafe", laid_pintle_api_ErrUnsafe), ("unicode/utf8.first", laid_unicode_utf8_first)] }
def GradeRisesSaid : Prop := gradeRisesRow.holds Tryd.pinned (OpenSpec.ofChange gradeRisesSpec)

/-- ITS FALSE NEIGHBOUR: 'it returns false'. Refute it at one input. -/
def gradeRisesWrong : ChangeSpec := { name := "gradeRises", fn := fun _ => fun
  | [d1, d2] => { results := [.lit (.bool false)], args := [d1, d2] }
  | _ => none }
def GradeRisesWrongFalsely : Prop := gradeRisesRow.holds Tryd.pinned (OpenSpec.ofChange gradeRisesWrong)

/-- 'pintlelaw17.GradeNeeds': WHATEVER THE INPUT: true; the input reads as it did. -/
def gradeNeedsSpec : ChangeSpec := { name := "gradeNeeds", fn := fun _ => fun
  | [d1, d2] => { results := [.lit (.bool true)], args := [d1, d2] }
  | _ => none }
def gradeNeedsRow : OpenClaim := { program := "ytjbjgpcldcpjmaadoor", sum := "471e758e8609a9d30cb6a358ef0277090eb8a99aa8616e6c312a1f5820d6b7f9", func := "pintle/pintlelaw17.GradeNeeds", spec := "gradeNeeds", inPlace := ["internal/bytealg.CountString", "internal/bytealg.IndexByteString", "internal/bytealg.IndexString"], unfollowed := true, recurses := true, named := ["pintle/api.ErrArg", "pintle/api.ErrInvalid", "pintle/api.ErrUnsafe", "pintle/api.ErrTwice", "pintle/api.ErrLacks", "unicode/utf8.first", "unicode/utf8.acceptRanges", "internal/bytealg.MaxLen", "pintle/api.ErrText"], apart := false, laid := [("unicode/utf8.acceptRanges", laid_unicode_utf8_acceptRanges), ("pintle/api.ErrArg", laid_pintle_api_ErrArg), ("pintle/api.ErrText", laid_pintle_api_ErrText), ("pintle/api.ErrInvalid", laid_pintle_api_ErrInvalid), ("pintle/api.ErrTwice", laid_pintle_api_ErrTwice), ("pintle/api.ErrLacks", laid_pintle_api_ErrLacks), ("pintle/api.ErrUnsafe", laid_pintle_api_ErrUnsafe), ("unicode/utf8.first", laid_unicode_utf8_first)] }
def GradeNeedsSaid : Prop := gradeNeedsRow.holds Tryd.pinned (OpenSpec.ofChange gradeNeedsSpec)

/-- ITS FALSE NEIGHBOUR: 'it returns false'. Refute it at one input. -/
def gradeNeedsWrong : ChangeSpec := { name := "gradeNeeds", fn := fun _ => fun
  | [d1, d2] => { results := [.lit (.bool false)], args := [d1, d2] }
  | _ => none }
def GradeNeedsWrongFalsely : Prop := gradeNeedsRow.holds Tryd.pinned (OpenSpec.ofChange gradeNeedsWrong)

/-- 'pintlelaw17.GradeOwn': WHATEVER THE INPUT: true; the input reads as it did. -/
def gradeOwnSpec : ChangeSpec := { name := "gradeOwn", fn := fun _ => fun
  | [d1, d2] => { results := [.lit (.bool true)], args := [d1, d2] }
  | _ => none }
def gradeOwnRow : OpenClaim := { program := "ytjbjgpcldcpjmaadoor", sum := "471e758e8609a9d30cb6a358ef0277090eb8a99aa8616e6c312a1f5820d6b7f9", func := "pintle/pintlelaw17.GradeOwn", spec := "gradeOwn", inPlace := ["internal/bytealg.CountString", "internal/bytealg.IndexByteString", "internal/bytealg.IndexString"], unfollowed := true, recurses := true, named := ["pintle/api.ErrArg", "pintle/api.ErrInvalid", "pintle/api.ErrUnsafe", "pintle/api.ErrTwice", "pintle/api.ErrLacks", "unicode/utf8.first", "unicode/utf8.acceptRanges", "internal/bytealg.MaxLen", "pintle/api.ErrText"], apart := false, laid := [("unicode/utf8.acceptRanges", laid_unicode_utf8_acceptRanges), ("pintle/api.ErrArg", laid_pintle_api_ErrArg), ("pintle/api.ErrText", laid_pintle_api_ErrText), ("pintle/api.ErrInvalid", laid_pintle_api_ErrInvalid), ("pintle/api.ErrTwice", laid_pintle_api_ErrTwice), ("pintle/api.ErrLacks", laid_pintle_api_ErrLacks), ("pintle/api.ErrUnsafe", laid_pintle_api_ErrUnsafe), ("unicode/utf8.first", laid_unicode_utf8_first)] }
def GradeOwnSaid : Prop := gradeOwnRow.holds Tryd.pinned (OpenSpec.ofChange gradeOwnSpec)

/-- ITS FALSE NEIGHBOUR: 'it returns false'. Refute it at one input. -/
def gradeOwnWrong : ChangeSpec := { name := "gradeOwn", fn := fun _ => fun
  | [d1, d2] => { results := [.lit (.bool false)], args := [d1, d2] }
  | _ => none }
def GradeOwnWrongFalsely : Prop := gradeOwnRow.holds Tryd.pinned (OpenSpec.ofChange gradeOwnWrong)

/-- 'pintlelaw17.GradeTable': WHATEVER THE INPUT: true; the input reads as it did. -/
def gradeTableSpec : ChangeSpec := { name := "gradeTable", fn := fun _ => fun
  | [] => { results := [.lit (.bool true)], args := [] }
  | _ => none }
def gradeTableRow : OpenClaim := { program := "ytjbjgpcldcpjmaadoor", sum := "471e758e8609a9d30cb6a358ef0277090eb8a99aa8616e6c312a1f5820d6b7f9", func := "pintle/pintlelaw17.GradeTable", spec := "gradeTable", inPlace := ["internal/bytealg.CountString", "internal/bytealg.IndexByteString", "internal/bytealg.IndexString"], unfollowed := true, recurses := true, named := ["unicode/utf8.first", "unicode/utf8.acceptRanges", "internal/bytealg.MaxLen", "pintle/api.ErrText", "pintle/api.ErrInvalid", "pintle/api.ErrUnsafe", "pintle/api.ErrTwice", "pintle/api.ErrLacks", "pintle/api.ErrArg"], apart := false, laid := [("unicode/utf8.acceptRanges", laid_unicode_utf8_acceptRanges), ("pintle/api.ErrArg", laid_pintle_api_ErrArg), ("pintle/api.ErrText", laid_pintle_api_ErrText), ("pintle/api.ErrInvalid", laid_pintle_api_ErrInvalid), ("pintle/api.ErrTwice", laid_pintle_api_ErrTwice), ("pintle/api.ErrLacks", laid_pintle_api_ErrLacks), ("pintle/api.ErrUnsafe", laid_pintle_api_ErrUnsafe), ("unicode/utf8.first", laid_unicode_utf8_first)] }
def GradeTableSaid : Prop := gradeTableRow.holds Tryd.pinned (OpenSpec.ofChange gradeTableSpec)

/-- ITS FALSE NEIGHBOUR: 'it returns false'. Refute it at one input. -/
def gradeTableWrong : ChangeSpec := { name := "gradeTable", fn := fun _ => fun
  | [] => { results := [.lit (.bool false)], args := [] }
  | _ => none }
def GradeTableWrongFalsely : Prop := gradeTableRow.holds Tryd.pinned (OpenSpec.ofChange gradeTableWrong)

/- THE SECOND FORM. 'bulk': how many values and letters a reading holds, each counted each time it is reached (what is shared counts as often as it is met; a slice's spare places count too). A statement '..UptoSaid' is the law's where the arguments, and the package variables that the reading takes, are together of bulk at most 1048576: NARROWER than '..Said'. Prove '..Said' where nothing that the law and all that it calls make is longer than what came in: it says more and counts as full. Else prove '..UptoSaid'. A law counts once. -/
mutual
def uptoBulk {H : Type} : DataW H → Nat
  | .lit (.string bytes) => bytes.length + 1
  | .lit _ => 1
  | .nil => 1
  | .ptr d => uptoBulk d + 1
  | .slice elems spare => uptoBulkAll elems + uptoBulkAll spare + 1
  | .agg parts => uptoBulkAll parts + 1
  | .iface _ d => uptoBulk d + 1
  | .map entries => uptoBulkEntries entries + 1
  | .held _ => 1
def uptoBulkAll {H : Type} : List (DataW H) → Nat
  | [] => 0
  | d :: r => uptoBulk d + uptoBulkAll r
def uptoBulkEntries {H : Type} : List (Lit × DataW H) → Nat
  | [] => 0
  | x :: r => uptoBulkEntry x + uptoBulkEntries r
def uptoBulkEntry {H : Type} : Lit × DataW H → Nat
  | (.string bytes, d) => bytes.length + uptoBulk d + 1
  | (_, d) => uptoBulk d + 1
 end
def uptoSmall : (H : Type) → List (DataW H) → Bool := fun _ ds => decide (uptoBulkAll ds ≤ 1048576)
def OpenSpec.upto (s : _root_.Go.ChangeSpec) : _root_.Go.OpenSpec := { _root_.Go.OpenSpec.ofChange s with cond := some uptoSmall }

/-- 'pintlelaw17.GradeTells', WHERE WHAT IT READS IS OF BULK AT MOST 1048576: true; the input reads as it did. -/
def gradeTellsUptoRow : OpenClaim := { program := "ytjbjgpcldcpjmaadoor", sum := "471e758e8609a9d30cb6a358ef0277090eb8a99aa8616e6c312a1f5820d6b7f9", func := "pintle/pintlelaw17.GradeTells", spec := "gradeTells", inPlace := ["internal/bytealg.CountString", "internal/bytealg.IndexByteString", "internal/bytealg.IndexString"], unfollowed := true, recurses := true, named := ["pintle/api.ErrArg", "pintle/api.ErrInvalid", "pintle/api.ErrUnsafe", "pintle/api.ErrTwice", "pintle/api.ErrLacks", "unicode/utf8.first", "unicode/utf8.acceptRanges", "internal/bytealg.MaxLen", "pintle/api.ErrText"], apart := false, laid := [("unicode/utf8.acceptRanges", laid_unicode_utf8_acceptRanges), ("pintle/api.ErrArg", laid_pintle_api_ErrArg), ("pintle/api.ErrText", laid_pintle_api_ErrText), ("pintle/api.ErrInvalid", laid_pintle_api_ErrInvalid), ("pintle/api.ErrTwice", laid_pintle_api_ErrTwice), ("pintle/api.ErrLacks", laid_pintle_api_ErrLacks), ("pintle/api.ErrUnsafe", laid_pintle_api_ErrUnsafe), ("unicode/utf8.first", laid_unicode_utf8_first)], narrowed := true }
def GradeTellsUptoSaid : Prop := gradeTellsUptoRow.holds Tryd.pinned (OpenSpec.upto gradeTellsSpec)

/-- 'pintlelaw17.GradeRises', WHERE WHAT IT READS IS OF BULK AT MOST 1048576: true; the input reads as it did. -/
def gradeRisesUptoRow : OpenClaim := { program := "ytjbjgpcldcpjmaadoor", sum := "471e758e8609a9d30cb6a358ef0277090eb8a99aa8616e6c312a1f5820d6b7f9", func := "pintle/pintlelaw17.GradeRises", spec := "gradeRises", inPlace := ["internal/bytealg.CountString", "internal/bytealg.IndexByteString", "internal/bytealg.IndexString"], unfollowed := true, recurses := true, named := ["pintle/api.ErrArg", "pintle/api.ErrInvalid", "pintle/api.ErrUnsafe", "pintle/api.ErrTwice", "pintle/api.ErrLacks", "unicode/utf8.first", "unicode/utf8.acceptRanges", "internal/bytealg.MaxLen", "pintle/api.ErrText"], apart := false, laid := [("unicode/utf8.acceptRanges", laid_unicode_utf8_acceptRanges), ("pintle/api.ErrArg", laid_pintle_api_ErrArg), ("pintle/api.ErrText", laid_pintle_api_ErrText), ("pintle/api.ErrInvalid", laid_pintle_api_ErrInvalid), ("pintle/api.ErrTwice", laid_pintle_api_ErrTwice), ("pintle/api.ErrLacks", laid_pintle_api_ErrLacks), ("pintle/api.ErrUnsafe", laid_pintle_api_ErrUnsafe), ("unicode/utf8.first", laid_unicode_utf8_first)], narrowed := true }
def GradeRisesUptoSaid : Prop := gradeRisesUptoRow.holds Tryd.pinned (OpenSpec.upto gradeRisesSpec)

/-- 'pintlelaw17.GradeNeeds', WHERE WHAT IT READS IS OF BULK AT MOST 1048576: true; the input reads as it did. -/
def gradeNeedsUptoRow : OpenClaim := { program := "ytjbjgpcldcpjmaadoor", sum := "471e758e8609a9d30cb6a358ef0277090eb8a99aa8616e6c312a1f5820d6b7f9", func := "pintle/pintlelaw17.GradeNeeds", spec := "gradeNeeds", inPlace := ["internal/bytealg.CountString", "internal/bytealg.IndexByteString", "internal/bytealg.IndexString"], unfollowed := true, recurses := true, named := ["pintle/api.ErrArg", "pintle/api.ErrInvalid", "pintle/api.ErrUnsafe", "pintle/api.ErrTwice", "pintle/api.ErrLacks", "unicode/utf8.first", "unicode/utf8.acceptRanges", "internal/bytealg.MaxLen", "pintle/api.ErrText"], apart := false, laid := [("unicode/utf8.acceptRanges", laid_unicode_utf8_acceptRanges), ("pintle/api.ErrArg", laid_pintle_api_ErrArg), ("pintle/api.ErrText", laid_pintle_api_ErrText), ("pintle/api.ErrInvalid", laid_pintle_api_ErrInvalid), ("pintle/api.ErrTwice", laid_pintle_api_ErrTwice), ("pintle/api.ErrLacks", laid_pintle_api_ErrLacks), ("pintle/api.ErrUnsafe", laid_pintle_api_ErrUnsafe), ("unicode/utf8.first", laid_unicode_utf8_first)], narrowed := true }
def GradeNeedsUptoSaid : Prop := gradeNeedsUptoRow.holds Tryd.pinned (OpenSpec.upto gradeNeedsSpec)

/-- 'pintlelaw17.GradeOwn', WHERE WHAT IT READS IS OF BULK AT MOST 1048576: true; the input reads as it did. -/
def gradeOwnUptoRow : OpenClaim := { program := "ytjbjgpcldcpjmaadoor", sum := "471e758e8609a9d30cb6a358ef0277090eb8a99aa8616e6c312a1f5820d6b7f9", func := "pintle/pintlelaw17.GradeOwn", spec := "gradeOwn", inPlace := ["internal/bytealg.CountString", "internal/bytealg.IndexByteString", "internal/bytealg.IndexString"], unfollowed := true, recurses := true, named := ["pintle/api.ErrArg", "pintle/api.ErrInvalid", "pintle/api.ErrUnsafe", "pintle/api.ErrTwice", "pintle/api.ErrLacks", "unicode/utf8.first", "unicode/utf8.acceptRanges", "internal/bytealg.MaxLen", "pintle/api.ErrText"], apart := false, laid := [("unicode/utf8.acceptRanges", laid_unicode_utf8_acceptRanges), ("pintle/api.ErrArg", laid_pintle_api_ErrArg), ("pintle/api.ErrText", laid_pintle_api_ErrText), ("pintle/api.ErrInvalid", laid_pintle_api_ErrInvalid), ("pintle/api.ErrTwice", laid_pintle_api_ErrTwice), ("pintle/api.ErrLacks", laid_pintle_api_ErrLacks), ("pintle/api.ErrUnsafe", laid_pintle_api_ErrUnsafe), ("unicode/utf8.first", laid_unicode_utf8_first)], narrowed := true }
def GradeOwnUptoSaid : Prop := gradeOwnUptoRow.holds Tryd.pinned (OpenSpec.upto gradeOwnSpec)

/-- 'pintlelaw17.GradeTable', WHERE WHAT IT READS IS OF BULK AT MOST 1048576: true; the input reads as it did. -/
def gradeTableUptoRow : OpenClaim := { program := "ytjbjgpcldcpjmaadoor", sum := "471e758e8609a9d30cb6a358ef0277090eb8a99aa8616e6c312a1f5820d6b7f9", func := "pintle/pintlelaw17.GradeTable", spec := "gradeTable", inPlace := ["internal/bytealg.CountString", "internal/bytealg.IndexByteString", "internal/bytealg.IndexString"], unfollowed := true, recurses := true, named := ["unicode/utf8.first", "unicode/utf8.acceptRanges", "internal/bytealg.MaxLen", "pintle/api.ErrText", "pintle/api.ErrInvalid", "pintle/api.ErrUnsafe", "pintle/api.ErrTwice", "pintle/api.ErrLacks", "pintle/api.ErrArg"], apart := false, laid := [("unicode/utf8.acceptRanges", laid_unicode_utf8_acceptRanges), ("pintle/api.ErrArg", laid_pintle_api_ErrArg), ("pintle/api.ErrText", laid_pintle_api_ErrText), ("pintle/api.ErrInvalid", laid_pintle_api_ErrInvalid), ("pintle/api.ErrTwice", laid_pintle_api_ErrTwice), ("pintle/api.ErrLacks", laid_pintle_api_ErrLacks), ("pintle/api.ErrUnsafe", laid_pintle_api_ErrUnsafe), ("unicode/utf8.first", laid_unicode_utf8_first)], narrowed := true }
def GradeTableUptoSaid : Prop := gradeTableUptoRow.holds Tryd.pinned (OpenSpec.upto gradeTableSpec)

end Rows
end Go.Proofs.YtjbjgpcldcpjmaaDoor
