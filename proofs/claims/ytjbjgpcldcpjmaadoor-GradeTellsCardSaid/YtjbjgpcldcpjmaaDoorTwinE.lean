/- A pattern of the call's own to which messages are added; what a load yields. Conditions: the cells lie there. -/
import Derived.Test.YtjbjgpcldcpjmaaDoorTwinD
namespace Go.Proofs.YtjbjgpcldcpjmaaDoor
open Go.RowKit

set_option maxHeartbeats 2000000 in
theorem exec_load35 {w : World} {p : Addr} {a : Option Addr} {n c : Nat} (h : w.cell? p = some (.slice a n c)) {ρ : Operand → Value} {x : Operand} (hx : ρ x = .pointer (some p)) {o : Oper} (ho : o.op = .load 35 x) : (execOp ρ o).run Tryd.prog w = .ok (.value (.slice a n c)) w := by
  simp only [execOp, ho, hx]
  go_simp
/-- The pattern's variable and its messages. -/
structure Nx (w0 w : World) (nb : Nat) (vs : List Value) (na : Option Addr) (k nc : Nat) (xl : List Value) : Prop where
  kp : Kp w0 w
  tc : Tc w nb vs
  own : Own w (nb + 1) 43 2 na k nc xl
  le : w0.heap.size ≤ nb
section
variable {w0 w w' : World} {nb : Nat} {vs : List Value} {na : Option Addr} {k nc : Nat} {xl : List Value}
theorem Nx.keep (h : Nx w0 w nb vs na k nc xl) (q : Kp w w') : Nx w0 w' nb vs na k nc xl := ⟨Kp.trans h.kp q, h.tc.kp q, h.own.keep q, h.le⟩
theorem Nx.set (h : Nx w0 w nb vs na k nc xl) (i : Nat) (hi : i < vs.length) (u : Value) : Nx w0 (w.setCell ⟨nb, i, none⟩ u) nb (vs.set i u) na k nc xl := by
  have f := Fr.set w ⟨nb, i, none⟩ u
  have hle := h.le
  exact ⟨((Fr.of_kp h.kp).step f (fun x hx => .inr (by simp only [List.mem_singleton] at hx; omega))).kp, h.tc.set i hi u, f.own h.own (fun x hx hq => by simp only [List.mem_singleton] at hq; have := (h.own.lt x (mem_blkL.1 hx)).1; omega), hle⟩
theorem Nx.app {o : Obj} {m N : Nat} {zs : List Value} {ao' : Option Addr} {cap' : Nat} (h : Nx w0 w nb vs na k nc xl) (ha : Appd (w.alloc o) w' (nb + 1) 43 2 na nc m N zs ao' cap') : Nx w0 w' nb vs ao' N cap' zs := by
  have h' := h.keep (Kp.new w o)
  have hle := h.le
  have hb : ∀ x ∈ blkL na, nb + 1 ≤ x := fun x hx => (h.own.lt x (mem_blkL.1 hx)).1
  exact ⟨((Fr.of_kp h'.kp).step ha.fr (fun x hx => .inr (by have := hb x hx; omega))).kp, h'.tc.fr ha.fr (fun hx => by have := hb nb hx; omega), ha.own, hle⟩
end
/-- The cells that a round looks at. -/
structure Cl6 (nb bx T b o gt k : Nat) (vn vp vt : Value) (f : Int) (vc vr : Value) (w : World) : Prop where
  nx : w.cell? ⟨nb, 3, none⟩ = some vn
  p : w.cell? ⟨bx, 3, none⟩ = some vp
  t : w.cell? ⟨T, 7, none⟩ = some vt
  c0 : w.cell? ⟨b, o, none⟩ = some (iv f)
  c1 : w.cell? ⟨b, o + 1, none⟩ = some vc
  r : w.cell? ⟨gt, k, none⟩ = some vr
theorem Cl6.kp {nb bx T b o gt k : Nat} {vn vp vt : Value} {f : Int} {vc vr : Value} {w w' : World} (h : Cl6 nb bx T b o gt k vn vp vt f vc vr w) (q : Kp w w') : Cl6 nb bx T b o gt k vn vp vt f vc vr w' :=
  ⟨q.cell h.nx, q.cell h.p, q.cell h.t, q.cell h.c0, q.cell h.c1, q.cell h.r⟩
end Go.Proofs.YtjbjgpcldcpjmaaDoor
