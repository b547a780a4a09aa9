/- Parts of the walks and plain laws, merged: Wants, Safe. Each theorem bears its own conditions; no other. -/
import Derived.Test.YtkmejehhdjdlbaaGreatDoorPo1
namespace Go.Proofs.YtkmejehhdjdlbaaGreatDoor
open Go.RowKit

def wantRows : List Value := [iv 3, iv 1, iv 1, iv 4, iv 1, iv 2, iv 5, iv 2, iv 1, iv 6, iv 2, iv 2]
/-- The keys of a secret: the initiator's, the responder's. -/
def wantI (t : Int) : Int := if t = 3 then 1 else if t = 4 then 1 else if t = 5 then 2 else if t = 6 then 2 else 0
def wantR (t : Int) : Int := if t = 3 then 1 else if t = 4 then 2 else if t = 5 then 1 else if t = 6 then 2 else 0
def isSec (t : Int) : Bool := t == 3 || t == 4 || t == 5 || t == 6

def WantsPost (w : World) (t : Int) (e : Ending) (w' : World) : Prop := Kp w w' ∧ e = .returned (.tuple #[.agg #[iv (if isSec t then t else 0), iv (wantI t), iv (wantR t)], .bool (isSec t)])

set_option maxHeartbeats 1000000 in
theorem wants_any (w : World) (t : Int) (h1 : 1 ≤ t) (h7 : t ≤ 7) : Calls Tryz.prog 98 #[iv t] w (WantsPost w t) := by
  go_enter Tryz.func98, Tryz.ntmps98
  go_wp2_with fail
  obtain ⟨wl, hwl⟩ : ∃ x, x = (w.alloc (.cells #[iv 0, iv 0, iv 0] 140)).alloc (.cells wantRows.toArray 140) := ⟨_, rfl⟩
  have hk0 : Kp w wl := by rw [hwl]; exact Kp.trans (Kp.new _ _) (Kp.new _ _)
  have hsz : wl.heap.size = w.heap.size + 2 := by rw [hwl]; simp
  have hc : ∀ j u, wantRows[j]? = some u → wl.cell? ⟨w.heap.size + 1, j, none⟩ = some u := by
    intro j u hu
    obtain ⟨b, off, e, h⟩ := Cs.new (w.alloc (.cells #[iv 0, iv 0, iv 0] 140)) wantRows 140 (0, 0) j u hu
    simp only [World.size_alloc, Option.some.injEq, Addr.mk.injEq, and_true] at e
    obtain ⟨rfl, rfl⟩ := e
    rw [Nat.zero_add] at h
    rw [hwl]; exact h
  have hz : ∀ j, j < 3 → wl.cell? ⟨w.heap.size, j, none⟩ = some (iv 0) ∧ wl.frozen? ⟨w.heap.size, j, none⟩ = false := by
    intro j hj
    have h1 : (w.alloc (.cells #[iv 0, iv 0, iv 0] 140)).cell? ⟨w.heap.size, j, none⟩ = some (iv 0) := by
      rw [World.cell?_alloc_at _ _ _ _ rfl]
      rcases j with _ | _ | _ | j
      · rfl
      · rfl
      · rfl
      · omega
    have h2 : (w.alloc (.cells #[iv 0, iv 0, iv 0] 140)).frozen? ⟨w.heap.size, j, none⟩ = false := World.frozen?_alloc_at _ _ _ _ rfl
    rw [hwl]
    exact ⟨Kp.cell (Kp.new _ _) h1, (Fr.of_kp (Kp.new _ _)).free h1 h2 (by simp)⟩
  have hg : (w.alloc (.cells #[iv 0, iv 0, iv 0] 140)).alloc (.cells #[Value.int IntKind.i64 3, Value.int IntKind.i64 1, Value.int IntKind.i64 1, Value.int IntKind.i64 4, Value.int IntKind.i64 1, Value.int IntKind.i64 2, Value.int IntKind.i64 5, Value.int IntKind.i64 2, Value.int IntKind.i64 1, Value.int IntKind.i64 6, Value.int IntKind.i64 2, Value.int IntKind.i64 2] 140) = wl := by rw [hwl]; rfl
  rw [hg]
  clear hg hwl
  have Hsz := Lib.hid hsz; clear hsz
  have Hc := Lib.hid hc; clear hc
  have Hz := Lib.hid hz; clear hz
  go_loopw [12] (fun i wr => ∃ k : Nat, k ≤ 4 ∧ i = .int .i64 k ∧ Kp wl wr ∧ (k = 0 ∨ t ≠ 3) ∧ (k ≤ 1 ∨ t ≠ 4) ∧ (k ≤ 2 ∨ t ≠ 5) ∧ (k ≤ 3 ∨ t ≠ 6)) (fun i _ => 4 - (intOf i).toNat)
  case atStart => exact ⟨0, by omega, rfl, Kp.refl _, by omega, by omega, by omega, by omega⟩
  case round =>
    obtain ⟨k, hk, rfl, hkk, n3, n4, n5, n6⟩ := hrel
    have hA : ∀ j, j < 3 → ∀ o, (wr.alloc o).cell? ⟨w.heap.size, j, none⟩ = some (iv 0) ∧ (wr.alloc o).frozen? ⟨w.heap.size, j, none⟩ = false := fun j hj o => by
      obtain ⟨z, f⟩ := Hz.out j hj
      have k := Kp.trans hkk (Kp.new wr o)
      exact ⟨Kp.cell k z, (Fr.of_kp k).free z f (by simp)⟩
    have a0 := fun o => (hA 0 (by omega) o).1
    have a1 := fun o => (hA 1 (by omega) o).1
    have a2 := fun o => (hA 2 (by omega) o).1
    have b0 := fun o => (hA 0 (by omega) o).2
    have b1 := fun o => (hA 1 (by omega) o).2
    have b2 := fun o => (hA 2 (by omega) o).2
    clear hA
    have hlt : w.heap.size + 2 ≤ wr.heap.size := by have := hkk.size; have := Hsz.out; omega
    rcases (show k = 0 ∨ k = 1 ∨ k = 2 ∨ k = 3 ∨ k = 4 by omega) with rfl | rfl | rfl | rfl | rfl
    · have c0 := Kp.cell hkk (Hc.out 0 _ rfl)
      have c1 := Kp.cell hkk (Hc.out 1 _ rfl)
      have c2 := Kp.cell hkk (Hc.out 2 _ rfl)
      by_cases ht : t = 3
      · subst ht
        clear n3 n4 n5 n6
        go_wp2_with fail
        refine bodyPost_ret (v := .tuple #[.agg #[iv 3, iv 1, iv 1], .bool true]) (by simp [results, Tryz.results98, go_sem, a0, a1, a2]) rfl ⟨?_, rfl⟩
        exact (((Kp.trans hk0 (Kp.trans hkk (Kp.new _ _))).setCell (Nat.le_refl _) _).setCell (Nat.le_refl _) _).setCell (Nat.le_refl _) _
      · have hb : ((3 : Int) == t) = false := by simp; omega
        go_wp2_with fail
        go_roundw
        case rel => exact ⟨1, by omega, rfl, Kp.trans hkk (Kp.new _ _), by omega, by omega, by omega, by omega⟩
        case measure => simp [intOf]
    · have c0 := Kp.cell hkk (Hc.out 3 _ rfl)
      have c1 := Kp.cell hkk (Hc.out 4 _ rfl)
      have c2 := Kp.cell hkk (Hc.out 5 _ rfl)
      by_cases ht : t = 4
      · subst ht
        clear n3 n4 n5 n6
        go_wp2_with fail
        refine bodyPost_ret (v := .tuple #[.agg #[iv 4, iv 1, iv 2], .bool true]) (by simp [results, Tryz.results98, go_sem, a0, a1, a2]) rfl ⟨?_, rfl⟩
        exact (((Kp.trans hk0 (Kp.trans hkk (Kp.new _ _))).setCell (Nat.le_refl _) _).setCell (Nat.le_refl _) _).setCell (Nat.le_refl _) _
      · have hb : ((4 : Int) == t) = false := by simp; omega
        go_wp2_with fail
        go_roundw
        case rel => exact ⟨2, by omega, rfl, Kp.trans hkk (Kp.new _ _), by omega, by omega, by omega, by omega⟩
        case measure => simp [intOf]
    · have c0 := Kp.cell hkk (Hc.out 6 _ rfl)
      have c1 := Kp.cell hkk (Hc.out 7 _ rfl)
      have c2 := Kp.cell hkk (Hc.out 8 _ rfl)
      by_cases ht : t = 5
      · subst ht
        clear n3 n4 n5 n6
        go_wp2_with fail
        refine bodyPost_ret (v := .tuple #[.agg #[iv 5, iv 2, iv 1], .bool true]) (by simp [results, Tryz.results98, go_sem, a0, a1, a2]) rfl ⟨?_, rfl⟩
        exact (((Kp.trans hk0 (Kp.trans hkk (Kp.new _ _))).setCell (Nat.le_refl _) _).setCell (Nat.le_refl _) _).setCell (Nat.le_refl _) _
      · have hb : ((5 : Int) == t) = false := by simp; omega
        go_wp2_with fail
        go_roundw
        case rel => exact ⟨3, by omega, rfl, Kp.trans hkk (Kp.new _ _), by omega, by omega, by omega, by omega⟩
        case measure => simp [intOf]
    · have c0 := Kp.cell hkk (Hc.out 9 _ rfl)
      have c1 := Kp.cell hkk (Hc.out 10 _ rfl)
      have c2 := Kp.cell hkk (Hc.out 11 _ rfl)
      by_cases ht : t = 6
      · subst ht
        clear n3 n4 n5 n6
        go_wp2_with fail
        refine bodyPost_ret (v := .tuple #[.agg #[iv 6, iv 2, iv 2], .bool true]) (by simp [results, Tryz.results98, go_sem, a0, a1, a2]) rfl ⟨?_, rfl⟩
        exact (((Kp.trans hk0 (Kp.trans hkk (Kp.new _ _))).setCell (Nat.le_refl _) _).setCell (Nat.le_refl _) _).setCell (Nat.le_refl _) _
      · have hb : ((6 : Int) == t) = false := by simp; omega
        go_wp2_with fail
        go_roundw
        case rel => exact ⟨4, by omega, rfl, Kp.trans hkk (Kp.new _ _), by omega, by omega, by omega, by omega⟩
        case measure => simp [intOf]
    · have ht : t ≠ 3 ∧ t ≠ 4 ∧ t ≠ 5 ∧ t ≠ 6 := by omega
      have e0 : isSec t = false := by simp [isSec]; omega
      have e1 : wantI t = 0 := by unfold wantI; rw [if_neg ht.1, if_neg ht.2.1, if_neg ht.2.2.1, if_neg ht.2.2.2]
      have e2 : wantR t = 0 := by unfold wantR; rw [if_neg ht.1, if_neg ht.2.1, if_neg ht.2.2.1, if_neg ht.2.2.2]
      have hpost : ∀ w', Kp w w' → WantsPost w t (.returned (.tuple #[.agg #[iv 0, iv 0, iv 0], .bool false])) w' := fun w' h => ⟨h, by rw [e0, e1, e2]; rfl⟩
      obtain ⟨z0, f0⟩ := Hz.out 0 (by omega)
      obtain ⟨z1, f1⟩ := Hz.out 1 (by omega)
      obtain ⟨z2, f2⟩ := Hz.out 2 (by omega)
      have g0 := (Fr.of_kp hkk).free z0 f0 (by simp)
      have g1 := (Fr.of_kp hkk).free z1 f1 (by simp)
      have g2 := (Fr.of_kp hkk).free z2 f2 (by simp)
      have y0 := Kp.cell hkk z0
      have y1 := Kp.cell hkk z1
      have y2 := Kp.cell hkk z2
      have Hpost := Lib.hid hpost
      clear hpost e0 e1 e2 n3 n4 n5 n6 ht
      go_wp2_with fail
      refine bodyPost_ret (v := .tuple #[.agg #[iv 0, iv 0, iv 0], .bool false]) (by simp [results, Tryz.results98, go_sem, y0, y1, y2]) rfl (Hpost.out _ ?_)
      exact (((Kp.trans hk0 hkk).setCell (Nat.le_refl _) _).setCell (Nat.le_refl _) _).setCell (Nat.le_refl _) _
end Go.Proofs.YtkmejehhdjdlbaaGreatDoor

namespace Go.Proofs.YtkmejehhdjdlbaaGreatDoor
open Go.RowKit

/-- The state of a check lies in block b: has[side][token] at 3 side + token, stood[token] at 6 + token. -/
def WalkAt (w : World) (b : Nat) (S : Nat → Bool) : Prop := ∀ j, j < 14 → w.cell? ⟨b, j, none⟩ = some (.bool (S j)) ∧ w.frozen? ⟨b, j, none⟩ = false
theorem Kp.walk {w w' : World} (h : Kp w w') {b : Nat} {S : Nat → Bool} (hx : WalkAt w b S) : WalkAt w' b S := fun j hj => ⟨h.cell (hx j hj).1, (Fr.of_kp h).free (hx j hj).1 (hx j hj).2 (by simp)⟩

def safeL (S : Nat → Bool) (side : Int) : Bool :=
  if side = 0 then (!S 11 || S 9) && (!S 12 || S 10) && (!S 13 || S 1) else (!S 10 || S 9) && (!S 12 || S 11) && (!S 13 || S 4)

set_option maxHeartbeats 2000000 in
theorem safe_0 (w : World) (b : Nat) (S : Nat → Bool) (h : WalkAt w b S) : Calls Tryz.prog 59 #[.pointer (some ⟨b, 0, none⟩), iv 0] w fun e w' => e = .returned (.bool (safeL S 0)) ∧ w = w' := by
  have c11 := (h 11 (by omega)).1
  have c9 := (h 9 (by omega)).1
  have c12 := (h 12 (by omega)).1
  have c10 := (h 10 (by omega)).1
  have c13 := (h 13 (by omega)).1
  have c1 := (h 1 (by omega)).1
  have hs : safeL S 0 = ((!S 11 || S 9) && (!S 12 || S 10) && (!S 13 || S 1)) := rfl
  rw [hs]
  clear hs
  have H := Lib.hid h; clear h
  generalize S 11 = x11 at *
  generalize S 9 = x9 at *
  generalize S 12 = x12 at *
  generalize S 10 = x10 at *
  generalize S 13 = x13 at *
  generalize S 1 = x1 at *
  go_enter Tryz.func59, Tryz.ntmps59
  go_wp2_with fail
  all_goals
    go_ret
    refine ⟨?_, rfl⟩
    simp_all
set_option maxHeartbeats 2000000 in
theorem safe_1 (w : World) (b : Nat) (S : Nat → Bool) (h : WalkAt w b S) : Calls Tryz.prog 59 #[.pointer (some ⟨b, 0, none⟩), iv 1] w fun e w' => e = .returned (.bool (safeL S 1)) ∧ w = w' := by
  have c11 := (h 11 (by omega)).1
  have c9 := (h 9 (by omega)).1
  have c12 := (h 12 (by omega)).1
  have c10 := (h 10 (by omega)).1
  have c13 := (h 13 (by omega)).1
  have c4 := (h 4 (by omega)).1
  have hs : safeL S 1 = ((!S 10 || S 9) && (!S 12 || S 11) && (!S 13 || S 4)) := rfl
  rw [hs]
  clear hs
  have H := Lib.hid h; clear h
  generalize S 11 = x11 at *
  generalize S 9 = x9 at *
  generalize S 12 = x12 at *
  generalize S 10 = x10 at *
  generalize S 13 = x13 at *
  generalize S 4 = x4 at *
  go_enter Tryz.func59, Tryz.ntmps59
  go_wp2_with fail
  all_goals
    go_ret
    refine ⟨?_, rfl⟩
    simp_all
theorem safe_any (w : World) (b : Nat) (S : Nat → Bool) (f : Int) (hf : f = 0 ∨ f = 1) (h : WalkAt w b S) : Calls Tryz.prog 59 #[.pointer (some ⟨b, 0, none⟩), iv f] w fun e w' => e = .returned (.bool (safeL S f)) ∧ w = w' := by
  rcases hf with rfl | rfl
  · exact safe_0 w b S h
  · exact safe_1 w b S h
end Go.Proofs.YtkmejehhdjdlbaaGreatDoor
