/- What the rows of the table hold. No condition. -/
import Derived.Test.YtpemfmjplejdiaaDoorRowsOf
namespace Go.Proofs.YtpemfmjplejdiaaDoor
open Go.RowKit

/-- A text's parts, its lines, and what a row holds. -/
def partL (r : ByteArray) (j : Nat) : ByteArray := (splitL r 124).getD j ⟨#[]⟩
def lineL (l : List ByteArray) (k : Nat) : List Ln := l.mapIdx fun i x => (((k + i) % 2 : Nat), tokL x)
def rowLs (r : ByteArray) : List Ln := lineL (splitL (partL r 3) 59) 0
/-- No part of a row is long. -/
def rowOk (r : ByteArray) : Bool := (splitL r 124).length == 4 && decide (r.size ≤ 1000) && decide ((partL r 1).size ≤ 1000) && decide ((partL r 2).size ≤ 1000) && decide ((partL r 3).size ≤ 1000) && ((splitL (partL r 3) 59).all fun x => decide (x.size ≤ 1000)) && decide ((splitL (partL r 3) 59).length ≤ 1000)
theorem rows_ok : (rowsL.all rowOk) = true := by kernel_rfl
def nameNN : ByteArray := ⟨#[78, 78]⟩
/-- The row NN: its number, its parts. -/
theorem nn_at : (rowsL.findIdx? fun r => decide ((partL r 0).data.toList = nameNN.data.toList)) = some 24 := by kernel_rfl
theorem nn_b0 : (partL (rowsL.getD 24 ⟨#[]⟩) 1).size = 0 := by kernel_rfl
theorem nn_b1 : (partL (rowsL.getD 24 ⟨#[]⟩) 2).size = 0 := by kernel_rfl
/-- Tokens, as the kernel reckons them. -/
def tokQ (x : ByteArray) : Nat → List Int
  | 0 => []
  | j + 1 => tokQ x j ++ (if ((wordL (j + 1)).data.toList == x.data.toList) = true then [((j + 1 : Nat) : Int)] else [])
theorem tokOf_q (x : ByteArray) (j : Nat) : tokOf x j = tokQ x j := by
  induction j with
  | zero => rfl
  | succ j ih => unfold tokOf tokQ; rw [ih, ByteArray.toList_eq, ByteArray.toList_eq]
def tokLQ (s : ByteArray) : List Int := if s.size = 0 then [] else (splitL s 32).flatMap (tokQ · 7)
theorem tokL_q (s : ByteArray) : tokL s = tokLQ s := by
  unfold tokL tokLQ
  have : (fun x => tokOf x 7) = fun x => tokQ x 7 := funext fun x => tokOf_q x 7
  rw [this]
def rowLsQ (r : ByteArray) : List Ln := (splitL (partL r 3) 59).mapIdx fun i x => (((0 + i) % 2 : Nat), tokLQ x)
theorem rowLs_q (r : ByteArray) : rowLs r = rowLsQ r := by
  unfold rowLs lineL rowLsQ
  congr 1
  funext i x
  rw [tokL_q]
theorem nn_ls : rowLs (rowsL.getD 24 ⟨#[]⟩) = [(0, [1]), (1, [1, 3])] := by rw [rowLs_q]; kernel_rfl
end Go.Proofs.YtpemfmjplejdiaaDoor
