/- What the document's Unroll answers; what one of its regions reads. No condition of its own. -/
import Derived.Test.YtpemfmjplejdiaaDoorRefCheck
import Derived.Test.YtpemfmjplejdiaaDoorGa3
namespace Go.Proofs.YtpemfmjplejdiaaDoor
open Go.RowKit

/-- What the document's Unroll leaves. -/
def UnrollRPost (w : World) (ini : Bool) (b0 b1 : List Int) (ls : List Ln) (e : Ending) (w' : World) : Prop := Kp w w' ∧
  if checkL b0 b1 ls = 0 then ∃ ao n cap, e = .returned (.tuple #[.slice ao n cap, iv 0]) ∧ MvO w' w.heap.size ao n cap (unrollL ini b0 b1 ls)
  else e = .returned (.tuple #[.slice none 0 0, iv (checkL b0 b1 ls : Nat)])
/-- What the region of a token reads. -/
def Held2 (pb : Nat) (nm : ByteArray) (a0 a1 al : Option Addr) (n0 c0 n1 c1 nl cl : Nat) (b off : Nat) (ta : Option Addr) (tn tc tb toff : Nat) (t : Int) (w : World) : Prop :=
  Bx w pb nm a0 a1 al n0 c0 n1 c1 nl cl ∧ w.cell? ⟨b, off, none⟩ = some (.slice ta tn tc) ∧ w.cell? ⟨tb, toff, none⟩ = some (iv t)
theorem Held2.fr {pb : Nat} {nm : ByteArray} {a0 a1 al : Option Addr} {n0 c0 n1 c1 nl cl : Nat} {b off : Nat} {ta : Option Addr} {tn tc tb toff : Nat} {t : Int} {Z : List Nat} {w w' : World} (h : Held2 pb nm a0 a1 al n0 c0 n1 c1 nl cl b off ta tn tc tb toff t w) (k : Fr Z w w') (h1 : pb ∉ Z) (h2 : b ∉ Z) (h3 : tb ∉ Z) : Held2 pb nm a0 a1 al n0 c0 n1 c1 nl cl b off ta tn tc tb toff t w' :=
  ⟨h.1.fr k h1, k.cell h.2.1 h2, k.cell h.2.2 h3⟩
theorem Held2.kp {pb : Nat} {nm : ByteArray} {a0 a1 al : Option Addr} {n0 c0 n1 c1 nl cl : Nat} {b off : Nat} {ta : Option Addr} {tn tc tb toff : Nat} {t : Int} {w w' : World} (h : Held2 pb nm a0 a1 al n0 c0 n1 c1 nl cl b off ta tn tc tb toff t w) (k : Kp w w') : Held2 pb nm a0 a1 al n0 c0 n1 c1 nl cl b off ta tn tc tb toff t w' := h.fr (Fr.of_kp k) (by simp) (by simp) (by simp)
set_option maxHeartbeats 2000000 in
theorem exec_load24 {w : World} {p : Addr} {a : Option Addr} {n c : Nat} (h : w.cell? p = some (.slice a n c)) {ρ : Operand → Value} {x : Operand} (hx : ρ x = .pointer (some p)) {o : Oper} (ho : o.op = .load 24 x) : (execOp ρ o).run Tryd.prog w = .ok (.value (.slice a n c)) w := by
  simp only [execOp, ho, hx]
  go_simp
set_option maxHeartbeats 2000000 in
theorem exec_load26 {w : World} {b : Nat} {nm : ByteArray} {a0 a1 al : Option Addr} {n0 c0 n1 c1 nl cl : Nat} (h : Bx w b nm a0 a1 al n0 c0 n1 c1 nl cl) {ρ : Operand → Value} {x : Operand} (hx : ρ x = .pointer (some ⟨b, 0, none⟩)) {o : Oper} (ho : o.op = .load 26 x) : (execOp ρ o).run Tryd.prog w = .ok (.value (.agg #[.string nm, .slice a0 n0 c0, .slice a1 n1 c1, .slice al nl cl])) w := by
  obtain ⟨x0, x1, x2, x3⟩ := h
  simp only [execOp, ho, hx]
  go_simp
end Go.Proofs.YtpemfmjplejdiaaDoor
