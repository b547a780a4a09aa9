/-
  NARROWER THAN 'FOR EVERY INPUT', by the rows' own cells (each row's printed sentence says how): FramePuts: laid · FramePlays: laid · FrameTwo: laid · FrameNothing: laid · FramePieces: laid · FrameOwn: laid.
  DERIVED. THE GIVEN ROWS OF THIS SEAT. 6 by the template 'for every input the law returns true; each argument reads behind the call as it read before'; 0 by the template 'total and deterministic' (their statements: YtkpdbdlkihgofaaDoorTotals.lean).
  GIVEN WITH THE SEED: the statements are not yours to turn. If you find one false, say at which input.
  Laid BY PROGRAM, IN A SANDBOX (cutbox-rows.mjs): the forced cells as the released guide's own fill.sh prints them over the translation 9cf6d106a0596203… (all of the seat's roots in one cut). By AI agents, Wed Nov 11 2026. No macro, syntax, notation, axiom, sorry.
-/
import Derived.Test.YtkpdbdlkihgofaaDoorChecked
import GoSem.Claim
import GoSem.ClaimJoined
import GoSem.ClaimMapViews
import Derived.JoinedTies
import Derived.KernelRfl
namespace Go.Proofs.YtkpdbdlkihgofaaDoor
/- THE CELL 'sum', in the pinned program and in every row, IS THE sha256 OF THE DUMP (.gsa) THAT YtkpdbdlkihgofaaDoorProg.lean LOADS. Nothing in Lean hashes anything: it is a label: what it is worth is what the hold of that sum in a sandbox is worth. -/
noncomputable def Tryd.pinned : Pinned := { name := "ytkpdbdlkihgofaadoor", sum := "9cf6d106a05962030fd8f55707fe3eec2459c420dfd3668c5bc3d7b2c212e545", checked := Tryd.checked }
namespace Rows
def none {H : Type} : Left H := { results := [], args := [] }

/- WHAT THE LISTED PACKAGE-LEVEL VARIABLES READ AS WHEN THE CALL BEGINS. Each datum BY PROGRAM (the guide's laid-datum.mjs) off the statement by which the dump's own 'gosem.cut.vars' lays the variable. In a bare row this is a premise. The card (YtkpdbdlkihgofaaDoorCards.lean) ties it to the program's text. -/
def laid_pintle_api_ErrLong {H : Type} : DataW H := .iface "*errors.errorString" (.ptr (.agg [.lit (.string [112, 105, 110, 116, 108, 101, 58, 32, 116, 111, 111, 32, 108, 111, 110, 103])]))

/-- 'pintlelaw20.FramePuts': WHATEVER THE INPUT: true; the input reads as it did. -/
def framePutsSpec : ChangeSpec := { name := "framePuts", fn := fun _ => fun
  | [d1, d2, d3] => { results := [.lit (.bool true)], args := [d1, d2, d3] }
  | _ => none }
def framePutsRow : OpenClaim := { program := "ytkpdbdlkihgofaadoor", sum := "9cf6d106a05962030fd8f55707fe3eec2459c420dfd3668c5bc3d7b2c212e545", func := "pintle/pintlelaw20.FramePuts", spec := "framePuts", named := ["pintle/api.ErrLong"], apart := false, laid := [("pintle/api.ErrLong", laid_pintle_api_ErrLong)] }
def FramePutsSaid : Prop := framePutsRow.holds Tryd.pinned (OpenSpec.ofChange framePutsSpec)

/-- ITS FALSE NEIGHBOUR: 'it returns false'. Refute it at one input. -/
def framePutsWrong : ChangeSpec := { name := "framePuts", fn := fun _ => fun
  | [d1, d2, d3] => { results := [.lit (.bool false)], args := [d1, d2, d3] }
  | _ => none }
def FramePutsWrongFalsely : Prop := framePutsRow.holds Tryd.pinned (OpenSpec.ofChange framePutsWrong)

/-- 'pintlelaw20.FramePlays': WHATEVER THE INPUT: true; the input reads as it did. -/
def framePlaysSpec : ChangeSpec := { name := "framePlays", fn := fun _ => fun
  | [d] => { results := [.lit (.bool true)], args := [d] }
  | _ => none }
def framePlaysRow : OpenClaim := { program := "ytkpdbdlkihgofaadoor", sum := "9cf6d106a05962030fd8f55707fe3eec2459c420dfd3668c5bc3d7b2c212e545", func := "pintle/pintlelaw20.FramePlays", spec := "framePlays", named := ["pintle/api.ErrLong"], apart := false, laid := [("pintle/api.ErrLong", laid_pintle_api_ErrLong)] }
def FramePlaysSaid : Prop := framePlaysRow.holds Tryd.pinned (OpenSpec.ofChange framePlaysSpec)

/-- ITS FALSE NEIGHBOUR: 'it returns false'. Refute it at one input. -/
def framePlaysWrong : ChangeSpec := { name := "framePlays", fn := fun _ => fun
  | [d] => { results := [.lit (.bool false)], args := [d] }
  | _ => none }
def FramePlaysWrongFalsely : Prop := framePlaysRow.holds Tryd.pinned (OpenSpec.ofChange framePlaysWrong)

/-- 'pintlelaw20.FrameTwo': WHATEVER THE INPUT: true; the input reads as it did. -/
def frameTwoSpec : ChangeSpec := { name := "frameTwo", fn := fun _ => fun
  | [d] => { results := [.lit (.bool true)], args := [d] }
  | _ => none }
def frameTwoRow : OpenClaim := { program := "ytkpdbdlkihgofaadoor", sum := "9cf6d106a05962030fd8f55707fe3eec2459c420dfd3668c5bc3d7b2c212e545", func := "pintle/pintlelaw20.FrameTwo", spec := "frameTwo", named := ["pintle/api.ErrLong"], apart := false, laid := [("pintle/api.ErrLong", laid_pintle_api_ErrLong)] }
def FrameTwoSaid : Prop := frameTwoRow.holds Tryd.pinned (OpenSpec.ofChange frameTwoSpec)

/-- ITS FALSE NEIGHBOUR: 'it returns false'. Refute it at one input. -/
def frameTwoWrong : ChangeSpec := { name := "frameTwo", fn := fun _ => fun
  | [d] => { results := [.lit (.bool false)], args := [d] }
  | _ => none }
def FrameTwoWrongFalsely : Prop := frameTwoRow.holds Tryd.pinned (OpenSpec.ofChange frameTwoWrong)

/-- 'pintlelaw20.FrameNothing': WHATEVER THE INPUT: true; the input reads as it did. -/
def frameNothingSpec : ChangeSpec := { name := "frameNothing", fn := fun _ => fun
  | [d] => { results := [.lit (.bool true)], args := [d] }
  | _ => none }
def frameNothingRow : OpenClaim := { program := "ytkpdbdlkihgofaadoor", sum := "9cf6d106a05962030fd8f55707fe3eec2459c420dfd3668c5bc3d7b2c212e545", func := "pintle/pintlelaw20.FrameNothing", spec := "frameNothing", named := ["pintle/api.ErrLong"], apart := false, laid := [("pintle/api.ErrLong", laid_pintle_api_ErrLong)] }
def FrameNothingSaid : Prop := frameNothingRow.holds Tryd.pinned (OpenSpec.ofChange frameNothingSpec)

/-- ITS FALSE NEIGHBOUR: 'it returns false'. Refute it at one input. -/
def frameNothingWrong : ChangeSpec := { name := "frameNothing", fn := fun _ => fun
  | [d] => { results := [.lit (.bool false)], args := [d] }
  | _ => none }
def FrameNothingWrongFalsely : Prop := frameNothingRow.holds Tryd.pinned (OpenSpec.ofChange frameNothingWrong)

/-- 'pintlelaw20.FramePieces': WHATEVER THE INPUT: true; the input reads as it did. -/
def framePiecesSpec : ChangeSpec := { name := "framePieces", fn := fun _ => fun
  | [d1, d2] => { results := [.lit (.bool true)], args := [d1, d2] }
  | _ => none }
def framePiecesRow : OpenClaim := { program := "ytkpdbdlkihgofaadoor", sum := "9cf6d106a05962030fd8f55707fe3eec2459c420dfd3668c5bc3d7b2c212e545", func := "pintle/pintlelaw20.FramePieces", spec := "framePieces", named := ["pintle/api.ErrLong"], apart := false, laid := [("pintle/api.ErrLong", laid_pintle_api_ErrLong)] }
def FramePiecesSaid : Prop := framePiecesRow.holds Tryd.pinned (OpenSpec.ofChange framePiecesSpec)

/-- ITS FALSE NEIGHBOUR: 'it returns false'. Refute it at one input. -/
def framePiecesWrong : ChangeSpec := { name := "framePieces", fn := fun _ => fun
  | [d1, d2] => { results := [.lit (.bool false)], args := [d1, d2] }
  | _ => none }
def FramePiecesWrongFalsely : Prop := framePiecesRow.holds Tryd.pinned (OpenSpec.ofChange framePiecesWrong)

/-- 'pintlelaw20.FrameOwn': WHATEVER THE INPUT: true; the input reads as it did. -/
def frameOwnSpec : ChangeSpec := { name := "frameOwn", fn := fun _ => fun
  | [d1, d2] => { results := [.lit (.bool true)], args := [d1, d2] }
  | _ => none }
def frameOwnRow : OpenClaim := { program := "ytkpdbdlkihgofaadoor", sum := "9cf6d106a05962030fd8f55707fe3eec2459c420dfd3668c5bc3d7b2c212e545", func := "pintle/pintlelaw20.FrameOwn", spec := "frameOwn", named := ["pintle/api.ErrLong"], apart := false, laid := [("pintle/api.ErrLong", laid_pintle_api_ErrLong)] }
def FrameOwnSaid : Prop := frameOwnRow.holds Tryd.pinned (OpenSpec.ofChange frameOwnSpec)

/-- ITS FALSE NEIGHBOUR: 'it returns false'. Refute it at one input. -/
def frameOwnWrong : ChangeSpec := { name := "frameOwn", fn := fun _ => fun
  | [d1, d2] => { results := [.lit (.bool false)], args := [d1, d2] }
  | _ => none }
def FrameOwnWrongFalsely : Prop := frameOwnRow.holds Tryd.pinned (OpenSpec.ofChange frameOwnWrong)

/- THE SECOND FORM. 'bulk': how many values and letters a reading holds, each counted each time it is reached (what is shared counts as often as it is met; a slice's spare places count too). A statement '..UptoSaid' is the law's where the arguments, and the package variables that the reading takes, are together of bulk at most 1048576: NARROWER than '..Said'. Prove '..Said' where nothing that the law and all that it calls make is longer than what came in: it says more and counts as full. Else prove '..UptoSaid'. A law counts once. -/
mutual
def uptoBulk {H : Type} : DataW H → Nat
  | .lit (.string bytes) => bytes.length + 1
  | .lit _ => 1
  | .nil => 1
  | .ptr d => uptoBulk d + 1
  | .slice elems spare => uptoBulkAll elems + uptoBulkAll spare + 1
  | .agg parts => uptoBulkAll parts + 1
  | .iface _ d => uptoBulk d + 1
  | .map entries => uptoBulkEntries entries + 1
  | .held _ => 1
def uptoBulkAll {H : Type} : List (DataW H) → Nat
  | [] => 0
  | d :: r => uptoBulk d + uptoBulkAll r
def uptoBulkEntries {H : Type} : List (Lit × DataW H) → Nat
  | [] => 0
  | x :: r => uptoBulkEntry x + uptoBulkEntries r
def uptoBulkEntry {H : Type} : Lit × DataW H → Nat
  | (.string bytes, d) => bytes.length + uptoBulk d + 1
  | (_, d) => uptoBulk d + 1
 end
def uptoSmall : (H : Type) → List (DataW H) → Bool := fun _ ds => decide (uptoBulkAll ds ≤ 1048576)
def OpenSpec.upto (s : _root_.Go.ChangeSpec) : _root_.Go.OpenSpec := { _root_.Go.OpenSpec.ofChange s with cond := some uptoSmall }

/-- 'pintlelaw20.FramePuts', WHERE WHAT IT READS IS OF BULK AT MOST 1048576: true; the input reads as it did. -/
def framePutsUptoRow : OpenClaim := { program := "ytkpdbdlkihgofaadoor", sum := "9cf6d106a05962030fd8f55707fe3eec2459c420dfd3668c5bc3d7b2c212e545", func := "pintle/pintlelaw20.FramePuts", spec := "framePuts", named := ["pintle/api.ErrLong"], apart := false, laid := [("pintle/api.ErrLong", laid_pintle_api_ErrLong)], narrowed := true }
def FramePutsUptoSaid : Prop := framePutsUptoRow.holds Tryd.pinned (OpenSpec.upto framePutsSpec)

/-- 'pintlelaw20.FramePlays', WHERE WHAT IT READS IS OF BULK AT MOST 1048576: true; the input reads as it did. -/
def framePlaysUptoRow : OpenClaim := { program := "ytkpdbdlkihgofaadoor", sum := "9cf6d106a05962030fd8f55707fe3eec2459c420dfd3668c5bc3d7b2c212e545", func := "pintle/pintlelaw20.FramePlays", spec := "framePlays", named := ["pintle/api.ErrLong"], apart := false, laid := [("pintle/api.ErrLong", laid_pintle_api_ErrLong)], narrowed := true }
def FramePlaysUptoSaid : Prop := framePlaysUptoRow.holds Tryd.pinned (OpenSpec.upto framePlaysSpec)

/-- 'pintlelaw20.FrameTwo', WHERE WHAT IT READS IS OF BULK AT MOST 1048576: true; the input reads as it did. -/
def frameTwoUptoRow : OpenClaim := { program := "ytkpdbdlkihgofaadoor", sum := "9cf6d106a05962030fd8f55707fe3eec2459c420dfd3668c5bc3d7b2c212e545", func := "pintle/pintlelaw20.FrameTwo", spec := "frameTwo", named := ["pintle/api.ErrLong"], apart := false, laid := [("pintle/api.ErrLong", laid_pintle_api_ErrLong)], narrowed := true }
def FrameTwoUptoSaid : Prop := frameTwoUptoRow.holds Tryd.pinned (OpenSpec.upto frameTwoSpec)

/-- 'pintlelaw20.FrameNothing', WHERE WHAT IT READS IS OF BULK AT MOST 1048576: true; the input reads as it did. -/
def frameNothingUptoRow : OpenClaim := { program := "ytkpdbdlkihgofaadoor", sum := "9cf6d106a05962030fd8f55707fe3eec2459c420dfd3668c5bc3d7b2c212e545", func := "pintle/pintlelaw20.FrameNothing", spec := "frameNothing", named := ["pintle/api.ErrLong"], apart := false, laid := [("pintle/api.ErrLong", laid_pintle_api_ErrLong)], narrowed := true }
def FrameNothingUptoSaid : Prop := frameNothingUptoRow.holds Tryd.pinned (OpenSpec.upto frameNothingSpec)

/-- 'pintlelaw20.FramePieces', WHERE WHAT IT READS IS OF BULK AT MOST 1048576: true; the input reads as it did. -/
def framePiecesUptoRow : OpenClaim := { program := "ytkpdbdlkihgofaadoor", sum := "9cf6d106a05962030fd8f55707fe3eec2459c420dfd3668c5bc3d7b2c212e545", func := "pintle/pintlelaw20.FramePieces", spec := "framePieces", named := ["pintle/api.ErrLong"], apart := false, laid := [("pintle/api.ErrLong", laid_pintle_api_ErrLong)], narrowed := true }
def FramePiecesUptoSaid : Prop := framePiecesUptoRow.holds Tryd.pinned (OpenSpec.upto framePiecesSpec)

/-- 'pintlelaw20.FrameOwn', WHERE WHAT IT READS IS OF BULK AT MOST 1048576: true; the input reads as it did. -/
def frameOwnUptoRow : OpenClaim := { program := "ytkpdbdlkihgofaadoor", sum := "9cf6d106a05962030fd8f55707fe3eec2459c420dfd3668c5bc3d7b2c212e545", func := "pintle/pintlelaw20.FrameOwn", spec := "frameOwn", named := ["pintle/api.ErrLong"], apart := false, laid := [("pintle/api.ErrLong", laid_pintle_api_ErrLong)], narrowed := true }
def FrameOwnUptoSaid : Prop := frameOwnUptoRow.holds Tryd.pinned (OpenSpec.upto frameOwnSpec)

end Rows
end Go.Proofs.YtkpdbdlkihgofaaDoor
