/- The document's check. Condition: the pattern lies there (Is, Lns). -/
import Derived.Test.YtbdphdgomcabmaaGreatDoorNi3
import Derived.Test.YtbdphdgomcabmaaGreatDoorNi5
import Derived.Test.YtbdphdgomcabmaaGreatDoorNi1
namespace Go.Proofs.YtbdphdgomcabmaaGreatDoor
open Go.RowKit

/-- What the region reads. -/
def Held (bx bl : Nat) (Y : Nat → Bool) (f : Int) (ta : Option Addr) (tn tc tb off : Nat) (t : Int) (w : World) : Prop :=
  SnAt w bx Y ∧ w.cell? ⟨bl, 0, none⟩ = some (iv f) ∧ w.cell? ⟨bl, 1, none⟩ = some (.slice ta tn tc) ∧ w.cell? ⟨tb, off, none⟩ = some (iv t)
theorem Held.fr {bx bl : Nat} {Y : Nat → Bool} {f : Int} {ta : Option Addr} {tn tc tb off : Nat} {t : Int} {Z : List Nat} {w w' : World} (h : Held bx bl Y f ta tn tc tb off t w) (k : Fr Z w w') (h1 : bx ∉ Z) (h2 : bl ∉ Z) (h3 : tb ∉ Z) : Held bx bl Y f ta tn tc tb off t w' :=
  ⟨h.1.fr k h1, k.cell h.2.1 h2, k.cell h.2.2.1 h2, k.cell h.2.2.2 h3⟩
theorem Held.kp {bx bl : Nat} {Y : Nat → Bool} {f : Int} {ta : Option Addr} {tn tc tb off : Nat} {t : Int} {w w' : World} (h : Held bx bl Y f ta tn tc tb off t w) (k : Kp w w') : Held bx bl Y f ta tn tc tb off t w' := h.fr (Fr.of_kp k) (by simp) (by simp) (by simp)
end Go.Proofs.YtbdphdgomcabmaaGreatDoor
