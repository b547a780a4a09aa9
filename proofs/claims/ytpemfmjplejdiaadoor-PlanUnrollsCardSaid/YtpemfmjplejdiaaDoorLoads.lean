/- What a load yields, as a fact. Conditions: the cells lie there. -/
import Derived.Test.YtpemfmjplejdiaaDoorRefBegin
import Derived.Test.YtpemfmjplejdiaaDoorRun3
namespace Go.Proofs.YtpemfmjplejdiaaDoor
open Go.RowKit

set_option maxHeartbeats 2000000 in
theorem exec_load3 {w : World} {p : Addr} {f : Int} (h : w.cell? p = some (iv f)) {ρ : Operand → Value} {x : Operand} (hx : ρ x = .pointer (some p)) {o : Oper} (ho : o.op = .load 3 x) : (execOp ρ o).run Tryd.prog w = .ok (.value (iv f)) w := by
  simp only [execOp, ho, hx]
  go_simp
set_option maxHeartbeats 2000000 in
theorem exec_load22 {w : World} {p : Addr} {a : Option Addr} {n c : Nat} (h : w.cell? p = some (.slice a n c)) {ρ : Operand → Value} {x : Operand} (hx : ρ x = .pointer (some p)) {o : Oper} (ho : o.op = .load 22 x) : (execOp ρ o).run Tryd.prog w = .ok (.value (.slice a n c)) w := by
  simp only [execOp, ho, hx]
  go_simp
set_option maxHeartbeats 2000000 in
theorem exec_load88 {w : World} {b : Nat} {X : Nat → Bool} (h : SnAt w b X) {ρ : Operand → Value} {x : Operand} (hx : ρ x = .pointer (some ⟨b, 0, none⟩)) {o : Oper} (ho : o.op = .load 88 x) : (execOp ρ o).run Tryd.prog w = .ok (.value (snV X)) w := by
  obtain ⟨x0, x1, x2, x3, x4, x5, x6, x7, x8, x9, x10, x11⟩ := h.cells
  clear h
  unfold snV
  simp only [execOp, ho, hx]
  go_simp
end Go.Proofs.YtpemfmjplejdiaaDoor
