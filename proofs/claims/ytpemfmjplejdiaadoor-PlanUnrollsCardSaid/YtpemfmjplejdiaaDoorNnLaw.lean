/- What the pattern NN unrolls to. No condition. -/
import Derived.Test.YtpemfmjplejdiaaDoorMirLaw
namespace Go.Proofs.YtpemfmjplejdiaaDoor
def nnLs : List Ln := [(0, [1]), (1, [1, 3])]
theorem nn_check : checkL [] [] nnLs = 0 := by kernel_rfl
theorem nn_moves (ini : Bool) : (unrollL ini [] [] nnLs).length = 11 ∧ ((unrollL ini [] [] nnLs)[0]?).map (·.op) = some 2 ∧ ((unrollL ini [] [] nnLs)[10]?).map (·.op) = some 14 := by
  cases ini <;> exact ⟨by kernel_rfl, by kernel_rfl, by kernel_rfl⟩
end Go.Proofs.YtpemfmjplejdiaaDoor
