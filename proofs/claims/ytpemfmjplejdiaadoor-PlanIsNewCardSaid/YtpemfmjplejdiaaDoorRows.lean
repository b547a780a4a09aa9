/-
  NARROWER THAN 'FOR EVERY INPUT', by the rows' own cells (each row's printed sentence says how): PlanUnrolls: laid · PlanMirrors: laid · PlanUnlike: laid · PlanRolls: laid · PlanBack: laid · PlanIsNew: laid.
  DERIVED. THE GIVEN ROWS OF THIS SEAT. 6 by the template 'for every input the law returns true; each argument reads behind the call as it read before'; 0 by the template 'total and deterministic' (their statements: YtpemfmjplejdiaaDoorTotals.lean).
  GIVEN WITH THE SEED: the statements are not yours to turn. If you find one false, say at which input.
  Laid BY PROGRAM, IN A SANDBOX (cutbox-rows.mjs): the forced cells as the released guide's own fill.sh prints them over the translation c143546c96989c02… (all of the seat's roots in one cut). By AI agents, Wed Nov 11 2026. No macro, syntax, notation, axiom, sorry.
-/
import Derived.Test.YtpemfmjplejdiaaDoorChecked
import GoSem.Claim
import GoSem.ClaimJoined
import GoSem.ClaimMapViews
import Derived.JoinedTies
import Derived.KernelRfl
namespace Go.Proofs.YtpemfmjplejdiaaDoor
/- THE CELL 'sum', in the pinned program and in every row, IS THE sha256 OF THE DUMP (.gsa) THAT YtpemfmjplejdiaaDoorProg.lean LOADS. Nothing in Lean hashes anything: it is a label: what it is worth is what the hold of that sum in a sandbox is worth. -/
noncomputable def Tryd.pinned : Pinned := { name := "ytpemfmjplejdiaadoor", sum := "c143546c96989c02b123f925aa881f8aff5c09d9b4ec208a494c60fb461a3622", checked := Tryd.checked }
namespace Rows
def none {H : Type} : Left H := { results := [], args := [] }

/- WHAT THE LISTED PACKAGE-LEVEL VARIABLES READ AS WHEN THE CALL BEGINS. Each datum BY PROGRAM (the guide's laid-datum.mjs) off the statement by which the dump's own 'gosem.cut.vars' lays the variable. In a bare row this is a premise. The card (YtpemfmjplejdiaaDoorCards.lean) ties it to the program's text. -/
def laid_pintle_api_ErrArg {H : Type} : DataW H := .iface "*errors.errorString" (.ptr (.agg [.lit (.string [112, 105, 110, 116, 108, 101, 58, 32, 97, 114, 103, 117, 109, 101, 110, 116])]))
def laid_pintle_api_ErrLong {H : Type} : DataW H := .iface "*errors.errorString" (.ptr (.agg [.lit (.string [112, 105, 110, 116, 108, 101, 58, 32, 116, 111, 111, 32, 108, 111, 110, 103])]))
def laid_pintle_api_ErrText {H : Type} : DataW H := .iface "*errors.errorString" (.ptr (.agg [.lit (.string [112, 105, 110, 116, 108, 101, 58, 32, 110, 111, 32, 112, 97, 116, 116, 101, 114, 110])]))
def laid_pintle_api_ErrInvalid {H : Type} : DataW H := .iface "*errors.errorString" (.ptr (.agg [.lit (.string [112, 105, 110, 116, 108, 101, 58, 32, 112, 97, 116, 116, 101, 114, 110, 32, 105, 110, 118, 97, 108, 105, 100])]))
def laid_pintle_api_ErrTwice {H : Type} : DataW H := .iface "*errors.errorString" (.ptr (.agg [.lit (.string [112, 105, 110, 116, 108, 101, 58, 32, 116, 119, 105, 99, 101])]))
def laid_pintle_api_ErrLacks {H : Type} : DataW H := .iface "*errors.errorString" (.ptr (.agg [.lit (.string [112, 105, 110, 116, 108, 101, 58, 32, 108, 97, 99, 107, 115])]))
def laid_pintle_api_ErrUnsafe {H : Type} : DataW H := .iface "*errors.errorString" (.ptr (.agg [.lit (.string [112, 105, 110, 116, 108, 101, 58, 32, 117, 110, 115, 97, 102, 101])]))
def laid_pintle_api_ErrName {H : Type} : DataW H := .iface "*errors.errorString" (.ptr (.agg [.lit (.string [112, 105, 110, 116, 108, 101, 58, 32, 110, 111, 32, 112, 114, 111, 116, 111, 99, 111, 108])]))

/-- 'pintlelaw23.PlanUnrolls': WHATEVER THE INPUT: true; the input reads as it did. -/
def planUnrollsSpec : ChangeSpec := { name := "planUnrolls", fn := fun _ => fun
  | [d1, d2] => { results := [.lit (.bool true)], args := [d1, d2] }
  | _ => none }
def planUnrollsRow : OpenClaim := { program := "ytpemfmjplejdiaadoor", sum := "c143546c96989c02b123f925aa881f8aff5c09d9b4ec208a494c60fb461a3622", func := "pintle/pintlelaw23.PlanUnrolls", spec := "planUnrolls", unfollowed := true, recurses := true, named := ["pintle/api.ErrInvalid", "pintle/api.ErrUnsafe", "pintle/api.ErrTwice", "pintle/api.ErrLacks", "pintle/api.ErrArg", "pintle/api.ErrLong", "pintle/api.ErrName", "pintle/api.ErrText"], plainKeys := false, apart := false, laid := [("pintle/api.ErrArg", laid_pintle_api_ErrArg), ("pintle/api.ErrLong", laid_pintle_api_ErrLong), ("pintle/api.ErrText", laid_pintle_api_ErrText), ("pintle/api.ErrInvalid", laid_pintle_api_ErrInvalid), ("pintle/api.ErrTwice", laid_pintle_api_ErrTwice), ("pintle/api.ErrLacks", laid_pintle_api_ErrLacks), ("pintle/api.ErrUnsafe", laid_pintle_api_ErrUnsafe), ("pintle/api.ErrName", laid_pintle_api_ErrName)] }
def PlanUnrollsSaid : Prop := planUnrollsRow.holds Tryd.pinned (OpenSpec.ofChange planUnrollsSpec)

/-- ITS FALSE NEIGHBOUR: 'it returns false'. Refute it at one input. -/
def planUnrollsWrong : ChangeSpec := { name := "planUnrolls", fn := fun _ => fun
  | [d1, d2] => { results := [.lit (.bool false)], args := [d1, d2] }
  | _ => none }
def PlanUnrollsWrongFalsely : Prop := planUnrollsRow.holds Tryd.pinned (OpenSpec.ofChange planUnrollsWrong)

/-- 'pintlelaw23.PlanMirrors': WHATEVER THE INPUT: true; the input reads as it did. -/
def planMirrorsSpec : ChangeSpec := { name := "planMirrors", fn := fun _ => fun
  | [d] => { results := [.lit (.bool true)], args := [d] }
  | _ => none }
def planMirrorsRow : OpenClaim := { program := "ytpemfmjplejdiaadoor", sum := "c143546c96989c02b123f925aa881f8aff5c09d9b4ec208a494c60fb461a3622", func := "pintle/pintlelaw23.PlanMirrors", spec := "planMirrors", unfollowed := true, recurses := true, named := ["pintle/api.ErrInvalid", "pintle/api.ErrUnsafe", "pintle/api.ErrTwice", "pintle/api.ErrLacks"], plainKeys := false, apart := false, laid := [("pintle/api.ErrInvalid", laid_pintle_api_ErrInvalid), ("pintle/api.ErrTwice", laid_pintle_api_ErrTwice), ("pintle/api.ErrLacks", laid_pintle_api_ErrLacks), ("pintle/api.ErrUnsafe", laid_pintle_api_ErrUnsafe)] }
def PlanMirrorsSaid : Prop := planMirrorsRow.holds Tryd.pinned (OpenSpec.ofChange planMirrorsSpec)

/-- ITS FALSE NEIGHBOUR: 'it returns false'. Refute it at one input. -/
def planMirrorsWrong : ChangeSpec := { name := "planMirrors", fn := fun _ => fun
  | [d] => { results := [.lit (.bool false)], args := [d] }
  | _ => none }
def PlanMirrorsWrongFalsely : Prop := planMirrorsRow.holds Tryd.pinned (OpenSpec.ofChange planMirrorsWrong)

/-- 'pintlelaw23.PlanUnlike': WHATEVER THE INPUT: true; the input reads as it did. -/
def planUnlikeSpec : ChangeSpec := { name := "planUnlike", fn := fun _ => fun
  | [d1, d2, d3] => { results := [.lit (.bool true)], args := [d1, d2, d3] }
  | _ => none }
def planUnlikeRow : OpenClaim := { program := "ytpemfmjplejdiaadoor", sum := "c143546c96989c02b123f925aa881f8aff5c09d9b4ec208a494c60fb461a3622", func := "pintle/pintlelaw23.PlanUnlike", spec := "planUnlike", unfollowed := true, recurses := true, named := ["pintle/api.ErrInvalid", "pintle/api.ErrUnsafe", "pintle/api.ErrTwice", "pintle/api.ErrLacks"], plainKeys := false, apart := false, laid := [("pintle/api.ErrInvalid", laid_pintle_api_ErrInvalid), ("pintle/api.ErrTwice", laid_pintle_api_ErrTwice), ("pintle/api.ErrLacks", laid_pintle_api_ErrLacks), ("pintle/api.ErrUnsafe", laid_pintle_api_ErrUnsafe)] }
def PlanUnlikeSaid : Prop := planUnlikeRow.holds Tryd.pinned (OpenSpec.ofChange planUnlikeSpec)

/-- ITS FALSE NEIGHBOUR: 'it returns false'. Refute it at one input. -/
def planUnlikeWrong : ChangeSpec := { name := "planUnlike", fn := fun _ => fun
  | [d1, d2, d3] => { results := [.lit (.bool false)], args := [d1, d2, d3] }
  | _ => none }
def PlanUnlikeWrongFalsely : Prop := planUnlikeRow.holds Tryd.pinned (OpenSpec.ofChange planUnlikeWrong)

/-- 'pintlelaw23.PlanRolls': WHATEVER THE INPUT: true; the input reads as it did. -/
def planRollsSpec : ChangeSpec := { name := "planRolls", fn := fun _ => fun
  | [d1, d2] => { results := [.lit (.bool true)], args := [d1, d2] }
  | _ => none }
def planRollsRow : OpenClaim := { program := "ytpemfmjplejdiaadoor", sum := "c143546c96989c02b123f925aa881f8aff5c09d9b4ec208a494c60fb461a3622", func := "pintle/pintlelaw23.PlanRolls", spec := "planRolls", unfollowed := true, recurses := true, named := ["pintle/api.ErrInvalid", "pintle/api.ErrUnsafe", "pintle/api.ErrTwice", "pintle/api.ErrLacks", "pintle/api.ErrArg", "pintle/api.ErrLong", "pintle/api.ErrName", "pintle/api.ErrText"], plainKeys := false, apart := false, laid := [("pintle/api.ErrArg", laid_pintle_api_ErrArg), ("pintle/api.ErrLong", laid_pintle_api_ErrLong), ("pintle/api.ErrText", laid_pintle_api_ErrText), ("pintle/api.ErrInvalid", laid_pintle_api_ErrInvalid), ("pintle/api.ErrTwice", laid_pintle_api_ErrTwice), ("pintle/api.ErrLacks", laid_pintle_api_ErrLacks), ("pintle/api.ErrUnsafe", laid_pintle_api_ErrUnsafe), ("pintle/api.ErrName", laid_pintle_api_ErrName)] }
def PlanRollsSaid : Prop := planRollsRow.holds Tryd.pinned (OpenSpec.ofChange planRollsSpec)

/-- ITS FALSE NEIGHBOUR: 'it returns false'. Refute it at one input. -/
def planRollsWrong : ChangeSpec := { name := "planRolls", fn := fun _ => fun
  | [d1, d2] => { results := [.lit (.bool false)], args := [d1, d2] }
  | _ => none }
def PlanRollsWrongFalsely : Prop := planRollsRow.holds Tryd.pinned (OpenSpec.ofChange planRollsWrong)

/-- 'pintlelaw23.PlanBack': WHATEVER THE INPUT: true; the input reads as it did. -/
def planBackSpec : ChangeSpec := { name := "planBack", fn := fun _ => fun
  | [d1, d2, d3] => { results := [.lit (.bool true)], args := [d1, d2, d3] }
  | _ => none }
def planBackRow : OpenClaim := { program := "ytpemfmjplejdiaadoor", sum := "c143546c96989c02b123f925aa881f8aff5c09d9b4ec208a494c60fb461a3622", func := "pintle/pintlelaw23.PlanBack", spec := "planBack", unfollowed := true, recurses := true, named := ["pintle/api.ErrInvalid", "pintle/api.ErrUnsafe", "pintle/api.ErrTwice", "pintle/api.ErrLacks"], plainKeys := false, apart := false, laid := [("pintle/api.ErrInvalid", laid_pintle_api_ErrInvalid), ("pintle/api.ErrTwice", laid_pintle_api_ErrTwice), ("pintle/api.ErrLacks", laid_pintle_api_ErrLacks), ("pintle/api.ErrUnsafe", laid_pintle_api_ErrUnsafe)] }
def PlanBackSaid : Prop := planBackRow.holds Tryd.pinned (OpenSpec.ofChange planBackSpec)

/-- ITS FALSE NEIGHBOUR: 'it returns false'. Refute it at one input. -/
def planBackWrong : ChangeSpec := { name := "planBack", fn := fun _ => fun
  | [d1, d2, d3] => { results := [.lit (.bool false)], args := [d1, d2, d3] }
  | _ => none }
def PlanBackWrongFalsely : Prop := planBackRow.holds Tryd.pinned (OpenSpec.ofChange planBackWrong)

/-- 'pintlelaw23.PlanIsNew': WHATEVER THE INPUT: true; the input reads as it did. -/
def planIsNewSpec : ChangeSpec := { name := "planIsNew", fn := fun _ => fun
  | [d1, d2] => { results := [.lit (.bool true)], args := [d1, d2] }
  | _ => none }
def planIsNewRow : OpenClaim := { program := "ytpemfmjplejdiaadoor", sum := "c143546c96989c02b123f925aa881f8aff5c09d9b4ec208a494c60fb461a3622", func := "pintle/pintlelaw23.PlanIsNew", spec := "planIsNew", unfollowed := true, recurses := true, named := ["pintle/api.ErrInvalid", "pintle/api.ErrUnsafe", "pintle/api.ErrTwice", "pintle/api.ErrLacks", "pintle/api.ErrArg", "pintle/api.ErrLong", "pintle/api.ErrName", "pintle/api.ErrText"], plainKeys := false, apart := false, laid := [("pintle/api.ErrArg", laid_pintle_api_ErrArg), ("pintle/api.ErrLong", laid_pintle_api_ErrLong), ("pintle/api.ErrText", laid_pintle_api_ErrText), ("pintle/api.ErrInvalid", laid_pintle_api_ErrInvalid), ("pintle/api.ErrTwice", laid_pintle_api_ErrTwice), ("pintle/api.ErrLacks", laid_pintle_api_ErrLacks), ("pintle/api.ErrUnsafe", laid_pintle_api_ErrUnsafe), ("pintle/api.ErrName", laid_pintle_api_ErrName)] }
def PlanIsNewSaid : Prop := planIsNewRow.holds Tryd.pinned (OpenSpec.ofChange planIsNewSpec)

/-- ITS FALSE NEIGHBOUR: 'it returns false'. Refute it at one input. -/
def planIsNewWrong : ChangeSpec := { name := "planIsNew", fn := fun _ => fun
  | [d1, d2] => { results := [.lit (.bool false)], args := [d1, d2] }
  | _ => none }
def PlanIsNewWrongFalsely : Prop := planIsNewRow.holds Tryd.pinned (OpenSpec.ofChange planIsNewWrong)

/- THE SECOND FORM. 'bulk': how many values and letters a reading holds, each counted each time it is reached (what is shared counts as often as it is met; a slice's spare places count too). A statement '..UptoSaid' is the law's where the arguments, and the package variables that the reading takes, are together of bulk at most 1048576: NARROWER than '..Said'. Prove '..Said' where nothing that the law and all that it calls make is longer than what came in: it says more and counts as full. Else prove '..UptoSaid'. A law counts once. -/
mutual
def uptoBulk {H : Type} : DataW H → Nat
  | .lit (.string bytes) => bytes.length + 1
  | .lit _ => 1
  | .nil => 1
  | .ptr d => uptoBulk d + 1
  | .slice elems spare => uptoBulkAll elems + uptoBulkAll spare + 1
  | .agg parts => uptoBulkAll parts + 1
  | .iface _ d => uptoBulk d + 1
  | .map entries => uptoBulkEntries entries + 1
  | .held _ => 1
def uptoBulkAll {H : Type} : List (DataW H) → Nat
  | [] => 0
  | d :: r => uptoBulk d + uptoBulkAll r
def uptoBulkEntries {H : Type} : List (Lit × DataW H) → Nat
  | [] => 0
  | x :: r => uptoBulkEntry x + uptoBulkEntries r
def uptoBulkEntry {H : Type} : Lit × DataW H → Nat
  | (.string bytes, d) => bytes.length + uptoBulk d + 1
  | (_, d) => uptoBulk d + 1
 end
def uptoSmall : (H : Type) → List (DataW H) → Bool := fun _ ds => decide (uptoBulkAll ds ≤ 1048576)
def OpenSpec.upto (s : _root_.Go.ChangeSpec) : _root_.Go.OpenSpec := { _root_.Go.OpenSpec.ofChange s with cond := some uptoSmall }

/-- 'pintlelaw23.PlanUnrolls', WHERE WHAT IT READS IS OF BULK AT MOST 1048576: true; the input reads as it did. -/
def planUnrollsUptoRow : OpenClaim := { program := "ytpemfmjplejdiaadoor", sum := "c143546c96989c02b123f925aa881f8aff5c09d9b4ec208a494c60fb461a3622", func := "pintle/pintlelaw23.PlanUnrolls", spec := "planUnrolls", unfollowed := true, recurses := true, named := ["pintle/api.ErrInvalid", "pintle/api.ErrUnsafe", "pintle/api.ErrTwice", "pintle/api.ErrLacks", "pintle/api.ErrArg", "pintle/api.ErrLong", "pintle/api.ErrName", "pintle/api.ErrText"], plainKeys := false, apart := false, laid := [("pintle/api.ErrArg", laid_pintle_api_ErrArg), ("pintle/api.ErrLong", laid_pintle_api_ErrLong), ("pintle/api.ErrText", laid_pintle_api_ErrText), ("pintle/api.ErrInvalid", laid_pintle_api_ErrInvalid), ("pintle/api.ErrTwice", laid_pintle_api_ErrTwice), ("pintle/api.ErrLacks", laid_pintle_api_ErrLacks), ("pintle/api.ErrUnsafe", laid_pintle_api_ErrUnsafe), ("pintle/api.ErrName", laid_pintle_api_ErrName)], narrowed := true }
def PlanUnrollsUptoSaid : Prop := planUnrollsUptoRow.holds Tryd.pinned (OpenSpec.upto planUnrollsSpec)

/-- 'pintlelaw23.PlanMirrors', WHERE WHAT IT READS IS OF BULK AT MOST 1048576: true; the input reads as it did. -/
def planMirrorsUptoRow : OpenClaim := { program := "ytpemfmjplejdiaadoor", sum := "c143546c96989c02b123f925aa881f8aff5c09d9b4ec208a494c60fb461a3622", func := "pintle/pintlelaw23.PlanMirrors", spec := "planMirrors", unfollowed := true, recurses := true, named := ["pintle/api.ErrInvalid", "pintle/api.ErrUnsafe", "pintle/api.ErrTwice", "pintle/api.ErrLacks"], plainKeys := false, apart := false, laid := [("pintle/api.ErrInvalid", laid_pintle_api_ErrInvalid), ("pintle/api.ErrTwice", laid_pintle_api_ErrTwice), ("pintle/api.ErrLacks", laid_pintle_api_ErrLacks), ("pintle/api.ErrUnsafe", laid_pintle_api_ErrUnsafe)], narrowed := true }
def PlanMirrorsUptoSaid : Prop := planMirrorsUptoRow.holds Tryd.pinned (OpenSpec.upto planMirrorsSpec)

/-- 'pintlelaw23.PlanUnlike', WHERE WHAT IT READS IS OF BULK AT MOST 1048576: true; the input reads as it did. -/
def planUnlikeUptoRow : OpenClaim := { program := "ytpemfmjplejdiaadoor", sum := "c143546c96989c02b123f925aa881f8aff5c09d9b4ec208a494c60fb461a3622", func := "pintle/pintlelaw23.PlanUnlike", spec := "planUnlike", unfollowed := true, recurses := true, named := ["pintle/api.ErrInvalid", "pintle/api.ErrUnsafe", "pintle/api.ErrTwice", "pintle/api.ErrLacks"], plainKeys := false, apart := false, laid := [("pintle/api.ErrInvalid", laid_pintle_api_ErrInvalid), ("pintle/api.ErrTwice", laid_pintle_api_ErrTwice), ("pintle/api.ErrLacks", laid_pintle_api_ErrLacks), ("pintle/api.ErrUnsafe", laid_pintle_api_ErrUnsafe)], narrowed := true }
def PlanUnlikeUptoSaid : Prop := planUnlikeUptoRow.holds Tryd.pinned (OpenSpec.upto planUnlikeSpec)

/-- 'pintlelaw23.PlanRolls', WHERE WHAT IT READS IS OF BULK AT MOST 1048576: true; the input reads as it did. -/
def planRollsUptoRow : OpenClaim := { program := "ytpemfmjplejdiaadoor", sum := "c143546c96989c02b123f925aa881f8aff5c09d9b4ec208a494c60fb461a3622", func := "pintle/pintlelaw23.PlanRolls", spec := "planRolls", unfollowed := true, recurses := true, named := ["pintle/api.ErrInvalid", "pintle/api.ErrUnsafe", "pintle/api.ErrTwice", "pintle/api.ErrLacks", "pintle/api.ErrArg", "pintle/api.ErrLong", "pintle/api.ErrName", "pintle/api.ErrText"], plainKeys := false, apart := false, laid := [("pintle/api.ErrArg", laid_pintle_api_ErrArg), ("pintle/api.ErrLong", laid_pintle_api_ErrLong), ("pintle/api.ErrText", laid_pintle_api_ErrText), ("pintle/api.ErrInvalid", laid_pintle_api_ErrInvalid), ("pintle/api.ErrTwice", laid_pintle_api_ErrTwice), ("pintle/api.ErrLacks", laid_pintle_api_ErrLacks), ("pintle/api.ErrUnsafe", laid_pintle_api_ErrUnsafe), ("pintle/api.ErrName", laid_pintle_api_ErrName)], narrowed := true }
def PlanRollsUptoSaid : Prop := planRollsUptoRow.holds Tryd.pinned (OpenSpec.upto planRollsSpec)

/-- 'pintlelaw23.PlanBack', WHERE WHAT IT READS IS OF BULK AT MOST 1048576: true; the input reads as it did. -/
def planBackUptoRow : OpenClaim := { program := "ytpemfmjplejdiaadoor", sum := "c143546c96989c02b123f925aa881f8aff5c09d9b4ec208a494c60fb461a3622", func := "pintle/pintlelaw23.PlanBack", spec := "planBack", unfollowed := true, recurses := true, named := ["pintle/api.ErrInvalid", "pintle/api.ErrUnsafe", "pintle/api.ErrTwice", "pintle/api.ErrLacks"], plainKeys := false, apart := false, laid := [("pintle/api.ErrInvalid", laid_pintle_api_ErrInvalid), ("pintle/api.ErrTwice", laid_pintle_api_ErrTwice), ("pintle/api.ErrLacks", laid_pintle_api_ErrLacks), ("pintle/api.ErrUnsafe", laid_pintle_api_ErrUnsafe)], narrowed := true }
def PlanBackUptoSaid : Prop := planBackUptoRow.holds Tryd.pinned (OpenSpec.upto planBackSpec)

/-- 'pintlelaw23.PlanIsNew', WHERE WHAT IT READS IS OF BULK AT MOST 1048576: true; the input reads as it did. -/
def planIsNewUptoRow : OpenClaim := { program := "ytpemfmjplejdiaadoor", sum := "c143546c96989c02b123f925aa881f8aff5c09d9b4ec208a494c60fb461a3622", func := "pintle/pintlelaw23.PlanIsNew", spec := "planIsNew", unfollowed := true, recurses := true, named := ["pintle/api.ErrInvalid", "pintle/api.ErrUnsafe", "pintle/api.ErrTwice", "pintle/api.ErrLacks", "pintle/api.ErrArg", "pintle/api.ErrLong", "pintle/api.ErrName", "pintle/api.ErrText"], plainKeys := false, apart := false, laid := [("pintle/api.ErrArg", laid_pintle_api_ErrArg), ("pintle/api.ErrLong", laid_pintle_api_ErrLong), ("pintle/api.ErrText", laid_pintle_api_ErrText), ("pintle/api.ErrInvalid", laid_pintle_api_ErrInvalid), ("pintle/api.ErrTwice", laid_pintle_api_ErrTwice), ("pintle/api.ErrLacks", laid_pintle_api_ErrLacks), ("pintle/api.ErrUnsafe", laid_pintle_api_ErrUnsafe), ("pintle/api.ErrName", laid_pintle_api_ErrName)], narrowed := true }
def PlanIsNewUptoSaid : Prop := planIsNewUptoRow.holds Tryd.pinned (OpenSpec.upto planIsNewSpec)

end Rows
end Go.Proofs.YtpemfmjplejdiaaDoor
