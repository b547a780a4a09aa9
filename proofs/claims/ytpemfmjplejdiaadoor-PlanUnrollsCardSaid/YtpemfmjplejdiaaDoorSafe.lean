/- The state of a check; what 'safe' answers. Condition: the state lies there (WalkAt). -/
import Derived.Test.YtpemfmjplejdiaaDoorWants
namespace Go.Proofs.YtpemfmjplejdiaaDoor
open Go.RowKit

/-- The state of a check lies in block b: has[side][token] at 3 side + token, stood[token] at 6 + token. -/
def WalkAt (w : World) (b : Nat) (S : Nat → Bool) : Prop := ∀ j, j < 14 → w.cell? ⟨b, j, none⟩ = some (.bool (S j)) ∧ w.frozen? ⟨b, j, none⟩ = false
theorem Kp.walk {w w' : World} (h : Kp w w') {b : Nat} {S : Nat → Bool} (hx : WalkAt w b S) : WalkAt w' b S := fun j hj => ⟨h.cell (hx j hj).1, (Fr.of_kp h).free (hx j hj).1 (hx j hj).2 (by simp)⟩

def safeL (S : Nat → Bool) (side : Int) : Bool :=
  if side = 0 then (!S 11 || S 9) && (!S 12 || S 10) && (!S 13 || S 1) else (!S 10 || S 9) && (!S 12 || S 11) && (!S 13 || S 4)

set_option maxHeartbeats 2000000 in
theorem safe_0 (w : World) (b : Nat) (S : Nat → Bool) (h : WalkAt w b S) : Calls Tryd.prog 38 #[.pointer (some ⟨b, 0, none⟩), iv 0] w fun e w' => e = .returned (.bool (safeL S 0)) ∧ w = w' := by
  have c11 := (h 11 (by omega)).1
  have c9 := (h 9 (by omega)).1
  have c12 := (h 12 (by omega)).1
  have c10 := (h 10 (by omega)).1
  have c13 := (h 13 (by omega)).1
  have c1 := (h 1 (by omega)).1
  have hs : safeL S 0 = ((!S 11 || S 9) && (!S 12 || S 10) && (!S 13 || S 1)) := rfl
  rw [hs]
  clear hs
  have H := Lib.hid h; clear h
  generalize S 11 = x11 at *
  generalize S 9 = x9 at *
  generalize S 12 = x12 at *
  generalize S 10 = x10 at *
  generalize S 13 = x13 at *
  generalize S 1 = x1 at *
  go_enter Tryd.func38, Tryd.ntmps38
  go_wp2_with fail
  all_goals
    go_ret
    refine ⟨?_, rfl⟩
    simp_all
set_option maxHeartbeats 2000000 in
theorem safe_1 (w : World) (b : Nat) (S : Nat → Bool) (h : WalkAt w b S) : Calls Tryd.prog 38 #[.pointer (some ⟨b, 0, none⟩), iv 1] w fun e w' => e = .returned (.bool (safeL S 1)) ∧ w = w' := by
  have c11 := (h 11 (by omega)).1
  have c9 := (h 9 (by omega)).1
  have c12 := (h 12 (by omega)).1
  have c10 := (h 10 (by omega)).1
  have c13 := (h 13 (by omega)).1
  have c4 := (h 4 (by omega)).1
  have hs : safeL S 1 = ((!S 10 || S 9) && (!S 12 || S 11) && (!S 13 || S 4)) := rfl
  rw [hs]
  clear hs
  have H := Lib.hid h; clear h
  generalize S 11 = x11 at *
  generalize S 9 = x9 at *
  generalize S 12 = x12 at *
  generalize S 10 = x10 at *
  generalize S 13 = x13 at *
  generalize S 4 = x4 at *
  go_enter Tryd.func38, Tryd.ntmps38
  go_wp2_with fail
  all_goals
    go_ret
    refine ⟨?_, rfl⟩
    simp_all
theorem safe_any (w : World) (b : Nat) (S : Nat → Bool) (f : Int) (hf : f = 0 ∨ f = 1) (h : WalkAt w b S) : Calls Tryd.prog 38 #[.pointer (some ⟨b, 0, none⟩), iv f] w fun e w' => e = .returned (.bool (safeL S f)) ∧ w = w' := by
  rcases hf with rfl | rfl
  · exact safe_0 w b S h
  · exact safe_1 w b S h
end Go.Proofs.YtpemfmjplejdiaaDoor
