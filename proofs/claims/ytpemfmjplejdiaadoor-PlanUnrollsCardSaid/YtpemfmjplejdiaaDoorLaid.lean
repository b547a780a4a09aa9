/- A world for the witness of a row: the eight variables are laid. No condition. -/
import Derived.Test.YtpemfmjplejdiaaDoorLaw
namespace Go.Proofs.YtpemfmjplejdiaaDoor
open Go.ChangeShapes Go.WideShapes Go.RowKit

/-- The errors' texts, by the variables' numbers. -/
noncomputable def errTexts : List ByteArray := [⟨#[112, 105, 110, 116, 108, 101, 58, 32, 97, 114, 103, 117, 109, 101, 110, 116]⟩, ⟨#[112, 105, 110, 116, 108, 101, 58, 32, 116, 111, 111, 32, 108, 111, 110, 103]⟩, ⟨#[112, 105, 110, 116, 108, 101, 58, 32, 112, 97, 116, 116, 101, 114, 110, 32, 105, 110, 118, 97, 108, 105, 100]⟩, ⟨#[112, 105, 110, 116, 108, 101, 58, 32, 116, 119, 105, 99, 101]⟩, ⟨#[112, 105, 110, 116, 108, 101, 58, 32, 108, 97, 99, 107, 115]⟩, ⟨#[112, 105, 110, 116, 108, 101, 58, 32, 117, 110, 115, 97, 102, 101]⟩, ⟨#[112, 105, 110, 116, 108, 101, 58, 32, 110, 111, 32, 112, 114, 111, 116, 111, 99, 111, 108]⟩, ⟨#[112, 105, 110, 116, 108, 101, 58, 32, 110, 111, 32, 112, 97, 116, 116, 101, 114, 110]⟩]
noncomputable def errCells : Array Obj := (errTexts.map fun t => Obj.cells #[.string t] 125).toArray
noncomputable def layAt (h : Array Obj) (g : Nat) : Array Obj := h.modify g fun
      | .cells _ t frozen => .cells #[.iface 107 (.pointer (some ⟨(World.holding Tryd.prog default ⟨#[], #[], []⟩).heap.size + g, 0, none⟩))] t frozen
      | o => o
noncomputable def laidWorld (os : Os) : World :=
  { World.holding Tryd.prog os ⟨errCells, #[], []⟩ with heap := [0, 1, 2, 3, 4, 5, 6, 7].foldl layAt (World.holding Tryd.prog os ⟨errCells, #[], []⟩).heap }
end Go.Proofs.YtpemfmjplejdiaaDoor
