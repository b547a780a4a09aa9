/- Parts of the walks and plain laws, merged: RefLaw, RefMem, RefBegin. Each theorem bears its own conditions; no other. -/
import Derived.Test.YtbdphdgomcabmaaGreatDoorNi3
namespace Go.Proofs.YtbdphdgomcabmaaGreatDoor
open Go.RowKit

end Go.Proofs.YtbdphdgomcabmaaGreatDoor

namespace Go.Proofs.YtbdphdgomcabmaaGreatDoor
open Go.RowKit

/-- It lies in block b. -/
def SnAt (w : World) (b : Nat) (X : Nat → Bool) : Prop := ∀ j, j < 12 → w.cell? ⟨b, j, none⟩ = some (.bool (X j)) ∧ w.frozen? ⟨b, j, none⟩ = false
theorem SnAt.fr {Z : List Nat} {w w' : World} {b : Nat} {X : Nat → Bool} (h : SnAt w b X) (k : Fr Z w w') (hb : b ∉ Z) : SnAt w' b X := fun j hj => ⟨k.cell (h j hj).1 hb, k.free (h j hj).1 (h j hj).2 hb⟩
theorem SnAt.kp {w w' : World} {b : Nat} {X : Nat → Bool} (h : SnAt w b X) (k : Kp w w') : SnAt w' b X := h.fr (Fr.of_kp k) (by simp)
theorem SnAt.cells {w : World} {b : Nat} {X : Nat → Bool} (h : SnAt w b X) : w.cell? ⟨b, 0, none⟩ = some (.bool (X 0)) ∧ w.cell? ⟨b, 1, none⟩ = some (.bool (X 1)) ∧ w.cell? ⟨b, 2, none⟩ = some (.bool (X 2)) ∧ w.cell? ⟨b, 3, none⟩ = some (.bool (X 3)) ∧ w.cell? ⟨b, 4, none⟩ = some (.bool (X 4)) ∧ w.cell? ⟨b, 5, none⟩ = some (.bool (X 5)) ∧ w.cell? ⟨b, 6, none⟩ = some (.bool (X 6)) ∧ w.cell? ⟨b, 7, none⟩ = some (.bool (X 7)) ∧ w.cell? ⟨b, 8, none⟩ = some (.bool (X 8)) ∧ w.cell? ⟨b, 9, none⟩ = some (.bool (X 9)) ∧ w.cell? ⟨b, 10, none⟩ = some (.bool (X 10)) ∧ w.cell? ⟨b, 11, none⟩ = some (.bool (X 11)) :=
  ⟨(h 0 (by omega)).1, (h 1 (by omega)).1, (h 2 (by omega)).1, (h 3 (by omega)).1, (h 4 (by omega)).1, (h 5 (by omega)).1, (h 6 (by omega)).1, (h 7 (by omega)).1, (h 8 (by omega)).1, (h 9 (by omega)).1, (h 10 (by omega)).1, (h 11 (by omega)).1⟩
theorem SnAt.free {w : World} {b : Nat} {X : Nat → Bool} (h : SnAt w b X) : w.frozen? ⟨b, 0, none⟩ = false ∧ w.frozen? ⟨b, 1, none⟩ = false ∧ w.frozen? ⟨b, 2, none⟩ = false ∧ w.frozen? ⟨b, 3, none⟩ = false ∧ w.frozen? ⟨b, 4, none⟩ = false ∧ w.frozen? ⟨b, 5, none⟩ = false ∧ w.frozen? ⟨b, 6, none⟩ = false ∧ w.frozen? ⟨b, 7, none⟩ = false ∧ w.frozen? ⟨b, 8, none⟩ = false ∧ w.frozen? ⟨b, 9, none⟩ = false ∧ w.frozen? ⟨b, 10, none⟩ = false ∧ w.frozen? ⟨b, 11, none⟩ = false :=
  ⟨(h 0 (by omega)).2, (h 1 (by omega)).2, (h 2 (by omega)).2, (h 3 (by omega)).2, (h 4 (by omega)).2, (h 5 (by omega)).2, (h 6 (by omega)).2, (h 7 (by omega)).2, (h 8 (by omega)).2, (h 9 (by omega)).2, (h 10 (by omega)).2, (h 11 (by omega)).2⟩
theorem SnAt.lt {w : World} {b : Nat} {X : Nat → Bool} (h : SnAt w b X) : b < w.heap.size := World.block_lt_of_cell? w _ (h 0 (by omega)).1
theorem SnAt.set {w : World} {b : Nat} {X : Nat → Bool} (h : SnAt w b X) (k : Nat) (hk : k < 12) (v : Bool) : SnAt (w.setCell ⟨b, k, none⟩ (.bool v)) b (upd X k v) := fun j hj => by
  constructor
  · by_cases hjk : j = k
    · subst hjk
      rw [World.cell?_setCell_same _ _ _ (h j hj).1]; simp only [upd, if_true]
    · rw [World.cell?_setCell_other _ _ _ _ (by simp <;> omega), (h j hj).1]; simp [upd, hjk]
  · rw [World.frozen?_setCell]; exact (h j hj).2
theorem lt12 {j : Nat} (h : j < 12) : j = 0 ∨ j = 1 ∨ j = 2 ∨ j = 3 ∨ j = 4 ∨ j = 5 ∨ j = 6 ∨ j = 7 ∨ j = 8 ∨ j = 9 ∨ j = 10 ∨ j = 11 := by omega
theorem SnAt.new (w : World) (Y : Nat → Bool) : SnAt (w.alloc (.cells #[.bool (Y 0), .bool (Y 1), .bool (Y 2), .bool (Y 3), .bool (Y 4), .bool (Y 5), .bool (Y 6), .bool (Y 7), .bool (Y 8), .bool (Y 9), .bool (Y 10), .bool (Y 11)] 117)) w.heap.size Y := fun j hj => by
  constructor
  · rw [World.cell?_alloc_at _ _ _ _ rfl]
    rcases lt12 hj with rfl | rfl | rfl | rfl | rfl | rfl | rfl | rfl | rfl | rfl | rfl | rfl <;> rfl
  · exact World.frozen?_alloc_at _ _ _ _ rfl
theorem SnAt.zero (w : World) : SnAt (w.alloc (.cells #[.bool false, .bool false, .bool false, .bool false, .bool false, .bool false, .bool false, .bool false, .bool false, .bool false, .bool false, .bool false] 117)) w.heap.size S0 := SnAt.new w S0
/-- All of it written over. -/
theorem SnAt.store {w : World} {b : Nat} {X : Nat → Bool} (h : SnAt w b X) (Y : Nat → Bool) :
    SnAt ((((((((((((w.setCell ⟨b, 0, none⟩ (.bool (Y 0))).setCell ⟨b, 1, none⟩ (.bool (Y 1))).setCell ⟨b, 2, none⟩ (.bool (Y 2))).setCell ⟨b, 3, none⟩ (.bool (Y 3))).setCell ⟨b, 4, none⟩ (.bool (Y 4))).setCell ⟨b, 5, none⟩ (.bool (Y 5))).setCell ⟨b, 6, none⟩ (.bool (Y 6))).setCell ⟨b, 7, none⟩ (.bool (Y 7))).setCell ⟨b, 8, none⟩ (.bool (Y 8))).setCell ⟨b, 9, none⟩ (.bool (Y 9))).setCell ⟨b, 10, none⟩ (.bool (Y 10))).setCell ⟨b, 11, none⟩ (.bool (Y 11))) b Y ∧
    Fr [b] w ((((((((((((w.setCell ⟨b, 0, none⟩ (.bool (Y 0))).setCell ⟨b, 1, none⟩ (.bool (Y 1))).setCell ⟨b, 2, none⟩ (.bool (Y 2))).setCell ⟨b, 3, none⟩ (.bool (Y 3))).setCell ⟨b, 4, none⟩ (.bool (Y 4))).setCell ⟨b, 5, none⟩ (.bool (Y 5))).setCell ⟨b, 6, none⟩ (.bool (Y 6))).setCell ⟨b, 7, none⟩ (.bool (Y 7))).setCell ⟨b, 8, none⟩ (.bool (Y 8))).setCell ⟨b, 9, none⟩ (.bool (Y 9))).setCell ⟨b, 10, none⟩ (.bool (Y 10))).setCell ⟨b, 11, none⟩ (.bool (Y 11))) := by
  constructor
  · have := ((((((((((((h.set 0 (by omega) (Y 0)).set 1 (by omega) (Y 1)).set 2 (by omega) (Y 2)).set 3 (by omega) (Y 3)).set 4 (by omega) (Y 4)).set 5 (by omega) (Y 5)).set 6 (by omega) (Y 6)).set 7 (by omega) (Y 7)).set 8 (by omega) (Y 8)).set 9 (by omega) (Y 9)).set 10 (by omega) (Y 10)).set 11 (by omega) (Y 11))
    intro j hj
    have h2 := this j hj
    refine ⟨h2.1.trans ?_, h2.2⟩
    congr 2
    rcases lt12 hj with rfl | rfl | rfl | rfl | rfl | rfl | rfl | rfl | rfl | rfl | rfl | rfl <;> rfl
  · exact ((((((((((((Fr.set w ⟨b, 0, none⟩ _).trans (Fr.set _ ⟨b, 1, none⟩ _)).trans (Fr.set _ ⟨b, 2, none⟩ _)).trans (Fr.set _ ⟨b, 3, none⟩ _)).trans (Fr.set _ ⟨b, 4, none⟩ _)).trans (Fr.set _ ⟨b, 5, none⟩ _)).trans (Fr.set _ ⟨b, 6, none⟩ _)).trans (Fr.set _ ⟨b, 7, none⟩ _)).trans (Fr.set _ ⟨b, 8, none⟩ _)).trans (Fr.set _ ⟨b, 9, none⟩ _)).trans (Fr.set _ ⟨b, 10, none⟩ _)).trans (Fr.set _ ⟨b, 11, none⟩ _))

/-- A pattern in a variable. -/
def Bx (w : World) (b : Nat) (nm : ByteArray) (a0 a1 al : Option Addr) (n0 c0 n1 c1 nl cl : Nat) : Prop :=
  w.cell? ⟨b, 0, none⟩ = some (.string nm) ∧ w.cell? ⟨b, 1, none⟩ = some (.slice a0 n0 c0) ∧ w.cell? ⟨b, 2, none⟩ = some (.slice a1 n1 c1) ∧ w.cell? ⟨b, 3, none⟩ = some (.slice al nl cl)
theorem Bx.new (w : World) (nm : ByteArray) (a0 a1 al : Option Addr) (n0 c0 n1 c1 nl cl : Nat) : Bx (w.alloc (.cells #[.string nm, .slice a0 n0 c0, .slice a1 n1 c1, .slice al nl cl] 26)) w.heap.size nm a0 a1 al n0 c0 n1 c1 nl cl := by
  refine ⟨?_, ?_, ?_, ?_⟩ <;> (rw [World.cell?_alloc_at _ _ _ _ rfl]; rfl)
theorem Bx.fr {Z : List Nat} {w w' : World} {b : Nat} {nm : ByteArray} {a0 a1 al : Option Addr} {n0 c0 n1 c1 nl cl : Nat} (h : Bx w b nm a0 a1 al n0 c0 n1 c1 nl cl) (k : Fr Z w w') (hb : b ∉ Z) : Bx w' b nm a0 a1 al n0 c0 n1 c1 nl cl := ⟨k.cell h.1 hb, k.cell h.2.1 hb, k.cell h.2.2.1 hb, k.cell h.2.2.2 hb⟩
theorem Bx.kp {w w' : World} {b : Nat} {nm : ByteArray} {a0 a1 al : Option Addr} {n0 c0 n1 c1 nl cl : Nat} (h : Bx w b nm a0 a1 al n0 c0 n1 c1 nl cl) (k : Kp w w') : Bx w' b nm a0 a1 al n0 c0 n1 c1 nl cl := h.fr (Fr.of_kp k) (by simp)
theorem Bx.lt {w : World} {b : Nat} {nm : ByteArray} {a0 a1 al : Option Addr} {n0 c0 n1 c1 nl cl : Nat} (h : Bx w b nm a0 a1 al n0 c0 n1 c1 nl cl) : b < w.heap.size := World.block_lt_of_cell? w _ h.1
end Go.Proofs.YtbdphdgomcabmaaGreatDoor

namespace Go.Proofs.YtbdphdgomcabmaaGreatDoor
open Go.RowKit

end Go.Proofs.YtbdphdgomcabmaaGreatDoor
