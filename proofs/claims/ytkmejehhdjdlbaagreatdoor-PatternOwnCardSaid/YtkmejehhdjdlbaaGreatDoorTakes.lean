/- What 'takes' does. Conditions: the state lies there (WalkAt); the errors are laid (Errs). -/
import Derived.Test.YtkmejehhdjdlbaaGreatDoorPo3
namespace Go.Proofs.YtkmejehhdjdlbaaGreatDoor
open Go.RowKit

/-- The errors that Check answers, by their numbers: 9 invalid, 10 twice, 11 lacks, 12 unsafe. -/
def Errs (w : World) (E : Nat → Addr) : Prop :=
  w.cell? ⟨1, 0, none⟩ = some (.iface 229 (.pointer (some (E 9)))) ∧ w.cell? ⟨2, 0, none⟩ = some (.iface 229 (.pointer (some (E 10)))) ∧ w.cell? ⟨3, 0, none⟩ = some (.iface 229 (.pointer (some (E 11)))) ∧ w.cell? ⟨4, 0, none⟩ = some (.iface 229 (.pointer (some (E 12))))
theorem Kp.errs {w w' : World} (h : Kp w w') {E : Nat → Addr} (hx : Errs w E) : Errs w' E := ⟨h.cell hx.1, h.cell hx.2.1, h.cell hx.2.2.1, h.cell hx.2.2.2⟩
def errV (E : Nat → Addr) (c : Nat) : Value := if c = 0 then .nilIface else .iface 229 (.pointer (some (E c)))

def upd {α : Type} (f : Nat → α) (n : Nat) (x : α) : Nat → α := fun i => if i = n then x else f i
def keyT (t : Int) : Bool := t == 1 || t == 2
/-- The state behind a token that may stand. -/
def tookL (S : Nat → Bool) (f t : Int) : Nat → Bool := upd (if keyT t then upd S (3 * f + t).toNat true else S) (6 + t).toNat true
/-- What a token offends. -/
def offL (S : Nat → Bool) (f t : Int) (last : Bool) : Nat :=
  if (keyT t && S (3 * f + t).toNat) || (isSec t && S (6 + t).toNat) then 10
  else if isSec t && (!S (wantI t).toNat || !S (3 + wantR t).toNat) then 11
  else if t == 2 && !safeL S f then 12
  else if last && !safeL (tookL S f t) f then 12
  else 0

theorem WalkAt.set {w : World} {b : Nat} {S : Nat → Bool} (h : WalkAt w b S) (j : Nat) (hj : j < 14) : WalkAt (w.setCell ⟨b, j, none⟩ (.bool true)) b (upd S j true) := fun i hi => by
  constructor
  · by_cases hij : i = j
    · subst hij
      rw [World.cell?_setCell_same _ _ _ (u := .bool (S i)) (h i hi).1]; simp [upd]
    · rw [World.cell?_setCell_other _ _ _ _ (by simp []), (h i hi).1]; simp [upd, hij]
  · rw [World.frozen?_setCell]; exact (h i hi).2

/-- The call's own end. -/
def TakesPost (w : World) (E : Nat → Addr) (b : Nat) (S : Nat → Bool) (f t : Int) (last : Bool) (e : Ending) (w' : World) : Prop :=
  e = .returned (errV E (offL S f t last)) ∧ Fr [b] w w' ∧ (offL S f t last = 0 → WalkAt w' b (tookL S f t))

set_option maxRecDepth 100000 in
set_option maxHeartbeats 4000000 in
theorem takes_0_1 (w : World) (E : Nat → Addr) (hE : Errs w E) (b : Nat) (S : Nat → Bool) (h : WalkAt w b S) (last : Bool) : Calls Tryz.prog 58 #[.pointer (some ⟨b, 0, none⟩), iv 0, iv 1, .bool last] w (TakesPost w E b S 0 1 last) := by
  have Hw := Lib.hid (show ∀ w, Calls Tryz.prog 98 #[iv 1] w fun e w' => Kp w w' ∧ e = .returned (.tuple #[.agg #[iv 0, iv 0, iv 0], .bool false]) from fun w => wants_any w 1 (by omega) (by omega))
  have H := Lib.hid h; clear h
  have HE := Lib.hid hE; clear hE
  by_cases h1 : S 1 = true
  · skip
    have hoff : offL S 0 1 last = 10 := by simp [offL, keyT, isSec, h1]
    have hpost : ∀ w', Kp w w' → TakesPost w E b S 0 1 last (.returned (.iface 229 (.pointer (some (E 10))))) w' := fun w' hk => ⟨by rw [hoff]; rfl, (Fr.of_kp hk).mono (by simp), by rw [hoff]; simp⟩
    have Hpost := Lib.hid hpost; clear hpost hoff
    go_enter Tryz.func58, Tryz.ntmps58
    go_wp2_with fail
    (with_reducible refine (Hw.out w).mono ?_)
    rintro e w1 ⟨hk1, rfl⟩
    have hW : ∀ o, WalkAt (w1.alloc o) b S := fun o => Kp.walk (Kp.trans hk1 (Kp.new w1 o)) H.out
    have hE : ∀ o, Errs (w1.alloc o) E := fun o => Kp.errs (Kp.trans hk1 (Kp.new w1 o)) HE.out
    have c1 := fun o => (hW o 1 (by omega)).1
    have c7 := fun o => (hW o 7 (by omega)).1
    have z1 := fun o => (hW o 1 (by omega)).2
    have z7 := fun o => (hW o 7 (by omega)).2
    have e10 := fun o => (hE o).2.1
    have e11 := fun o => (hE o).2.2.1
    have e12 := fun o => (hE o).2.2.2
    have HW := Lib.hid hW; clear hW hE
    simp only [h1] at c1
    clear h1
    go_wp2_with fail
    go_ret
    exact Hpost.out _ (Kp.trans hk1 (Kp.new _ _))
  · have h1 : S 1 = false := by simpa using h1
    have hoff : offL S 0 1 last = if last && !safeL (tookL S 0 1) 0 then 12 else 0 := by simp [offL, keyT, isSec, wantI, wantR, h1]
    have hpost : ∀ w' c, (if last && !safeL (tookL S 0 1) 0 then 12 else 0) = c → Fr [b] w w' → WalkAt w' b (tookL S 0 1) → TakesPost w E b S 0 1 last (.returned (errV E c)) w' := fun w' c hc hk hw => ⟨by rw [hoff, hc], hk, fun _ => hw⟩
    have Hpost := Lib.hid hpost; clear hpost hoff
    have htook : tookL S 0 1 = upd (upd S 1 true) 7 true := rfl
    have Htook := Lib.hid htook; clear htook
    cases last with
    | false =>
      go_enter Tryz.func58, Tryz.ntmps58
      go_wp2_with fail
      (with_reducible refine (Hw.out w).mono ?_)
      rintro e w1 ⟨hk1, rfl⟩
      have hW : ∀ o, WalkAt (w1.alloc o) b S := fun o => Kp.walk (Kp.trans hk1 (Kp.new w1 o)) H.out
      have hE : ∀ o, Errs (w1.alloc o) E := fun o => Kp.errs (Kp.trans hk1 (Kp.new w1 o)) HE.out
      have c1 := fun o => (hW o 1 (by omega)).1
      have c7 := fun o => (hW o 7 (by omega)).1
      have z1 := fun o => (hW o 1 (by omega)).2
      have z7 := fun o => (hW o 7 (by omega)).2
      have e10 := fun o => (hE o).2.1
      have e11 := fun o => (hE o).2.2.1
      have e12 := fun o => (hE o).2.2.2
      have HW := Lib.hid hW; clear hW hE
      simp only [h1] at c1
      clear h1
      go_wp2_with fail
      go_quiet (fail)
      go_wp2_with fail
      go_ret
      exact Hpost.out _ 0 rfl ((((Fr.of_kp (Kp.trans hk1 (Kp.trans (Kp.new _ _) (Kp.of_drewN _ _)))).mono (by simp)).trans (Fr.set _ ⟨b, 1, none⟩ _)).trans (Fr.set _ ⟨b, 7, none⟩ _)) (by rw [Htook.out]; exact (WalkAt.set (WalkAt.set (Kp.walk (Kp.of_drewN _ _) (HW.out _)) 1 (by omega)) 7 (by omega)))
    | true =>
      go_enter Tryz.func58, Tryz.ntmps58
      go_wp2_with fail
      (with_reducible refine (Hw.out w).mono ?_)
      rintro e w1 ⟨hk1, rfl⟩
      have hW : ∀ o, WalkAt (w1.alloc o) b S := fun o => Kp.walk (Kp.trans hk1 (Kp.new w1 o)) H.out
      have hE : ∀ o, Errs (w1.alloc o) E := fun o => Kp.errs (Kp.trans hk1 (Kp.new w1 o)) HE.out
      have c1 := fun o => (hW o 1 (by omega)).1
      have c7 := fun o => (hW o 7 (by omega)).1
      have z1 := fun o => (hW o 1 (by omega)).2
      have z7 := fun o => (hW o 7 (by omega)).2
      have e10 := fun o => (hE o).2.1
      have e11 := fun o => (hE o).2.2.1
      have e12 := fun o => (hE o).2.2.2
      have HW := Lib.hid hW; clear hW hE
      simp only [h1] at c1
      clear h1
      go_wp2_with fail
      go_quiet (fail)
      go_wp2_with fail
      (with_reducible refine (safe_any _ b (tookL S 0 1) 0 (by omega) (by rw [Htook.out]; exact (WalkAt.set (WalkAt.set (Kp.walk (Kp.of_drewN _ _) (HW.out _)) 1 (by omega)) 7 (by omega)))).mono ?_)
      rintro e w3 ⟨rfl, rfl⟩
      by_cases hq : safeL (tookL S 0 1) 0 = true
      · skip
        have Hc := Lib.hid (show (if true && !safeL (tookL S 0 1) 0 then 12 else 0) = 0 by rw [hq]; rfl)
        rw [hq]; clear hq
        go_wp2_with fail
        go_ret
        exact Hpost.out _ 0 Hc.out ((((Fr.of_kp (Kp.trans hk1 (Kp.trans (Kp.new _ _) (Kp.of_drewN _ _)))).mono (by simp)).trans (Fr.set _ ⟨b, 1, none⟩ _)).trans (Fr.set _ ⟨b, 7, none⟩ _)) (by rw [Htook.out]; exact (WalkAt.set (WalkAt.set (Kp.walk (Kp.of_drewN _ _) (HW.out _)) 1 (by omega)) 7 (by omega)))
      · have hq : safeL (tookL S 0 1) 0 = false := by simpa using hq
        have Hc := Lib.hid (show (if true && !safeL (tookL S 0 1) 0 then 12 else 0) = 12 by rw [hq]; rfl)
        rw [hq]; clear hq
        go_wp2_with fail
        go_ret
        exact Hpost.out _ 12 Hc.out ((((Fr.of_kp (Kp.trans hk1 (Kp.trans (Kp.new _ _) (Kp.of_drewN _ _)))).mono (by simp)).trans (Fr.set _ ⟨b, 1, none⟩ _)).trans (Fr.set _ ⟨b, 7, none⟩ _)) (by rw [Htook.out]; exact (WalkAt.set (WalkAt.set (Kp.walk (Kp.of_drewN _ _) (HW.out _)) 1 (by omega)) 7 (by omega)))

set_option maxRecDepth 100000 in
set_option maxHeartbeats 4000000 in
theorem takes_0_2 (w : World) (E : Nat → Addr) (hE : Errs w E) (b : Nat) (S : Nat → Bool) (h : WalkAt w b S) (last : Bool) : Calls Tryz.prog 58 #[.pointer (some ⟨b, 0, none⟩), iv 0, iv 2, .bool last] w (TakesPost w E b S 0 2 last) := by
  have Hw := Lib.hid (show ∀ w, Calls Tryz.prog 98 #[iv 2] w fun e w' => Kp w w' ∧ e = .returned (.tuple #[.agg #[iv 0, iv 0, iv 0], .bool false]) from fun w => wants_any w 2 (by omega) (by omega))
  have H := Lib.hid h; clear h
  have HE := Lib.hid hE; clear hE
  by_cases h1 : S 2 = true
  · skip
    have hoff : offL S 0 2 last = 10 := by simp [offL, keyT, isSec, h1]
    have hpost : ∀ w', Kp w w' → TakesPost w E b S 0 2 last (.returned (.iface 229 (.pointer (some (E 10))))) w' := fun w' hk => ⟨by rw [hoff]; rfl, (Fr.of_kp hk).mono (by simp), by rw [hoff]; simp⟩
    have Hpost := Lib.hid hpost; clear hpost hoff
    go_enter Tryz.func58, Tryz.ntmps58
    go_wp2_with fail
    (with_reducible refine (Hw.out w).mono ?_)
    rintro e w1 ⟨hk1, rfl⟩
    have hW : ∀ o, WalkAt (w1.alloc o) b S := fun o => Kp.walk (Kp.trans hk1 (Kp.new w1 o)) H.out
    have hE : ∀ o, Errs (w1.alloc o) E := fun o => Kp.errs (Kp.trans hk1 (Kp.new w1 o)) HE.out
    have c2 := fun o => (hW o 2 (by omega)).1
    have c8 := fun o => (hW o 8 (by omega)).1
    have z2 := fun o => (hW o 2 (by omega)).2
    have z8 := fun o => (hW o 8 (by omega)).2
    have e10 := fun o => (hE o).2.1
    have e11 := fun o => (hE o).2.2.1
    have e12 := fun o => (hE o).2.2.2
    have HW := Lib.hid hW; clear hW hE
    simp only [h1] at c2
    clear h1
    go_wp2_with fail
    go_ret
    exact Hpost.out _ (Kp.trans hk1 (Kp.new _ _))
  · have h1 : S 2 = false := by simpa using h1
    by_cases hs : safeL S 0 = true
    · skip
      have hoff : offL S 0 2 last = if last && !safeL (tookL S 0 2) 0 then 12 else 0 := by simp [offL, keyT, isSec, wantI, wantR, h1, hs]
      have hpost : ∀ w' c, (if last && !safeL (tookL S 0 2) 0 then 12 else 0) = c → Fr [b] w w' → WalkAt w' b (tookL S 0 2) → TakesPost w E b S 0 2 last (.returned (errV E c)) w' := fun w' c hc hk hw => ⟨by rw [hoff, hc], hk, fun _ => hw⟩
      have Hpost := Lib.hid hpost; clear hpost hoff
      have htook : tookL S 0 2 = upd (upd S 2 true) 8 true := rfl
      have Htook := Lib.hid htook; clear htook
      cases last with
      | false =>
        go_enter Tryz.func58, Tryz.ntmps58
        go_wp2_with fail
        (with_reducible refine (Hw.out w).mono ?_)
        rintro e w1 ⟨hk1, rfl⟩
        have hW : ∀ o, WalkAt (w1.alloc o) b S := fun o => Kp.walk (Kp.trans hk1 (Kp.new w1 o)) H.out
        have hE : ∀ o, Errs (w1.alloc o) E := fun o => Kp.errs (Kp.trans hk1 (Kp.new w1 o)) HE.out
        have c2 := fun o => (hW o 2 (by omega)).1
        have c8 := fun o => (hW o 8 (by omega)).1
        have z2 := fun o => (hW o 2 (by omega)).2
        have z8 := fun o => (hW o 8 (by omega)).2
        have e10 := fun o => (hE o).2.1
        have e11 := fun o => (hE o).2.2.1
        have e12 := fun o => (hE o).2.2.2
        have HW := Lib.hid hW; clear hW hE
        simp only [h1] at c2
        clear h1
        go_wp2_with fail
        go_quiet (fail)
        go_wp2_with fail
        (with_reducible refine (safe_any _ b S 0 (by omega) (Kp.walk (Kp.of_drewN _ _) (HW.out _))).mono ?_)
        rintro e w2 ⟨rfl, rfl⟩
        rw [hs]; clear hs
        go_wp2_with fail
        go_ret
        exact Hpost.out _ 0 rfl ((((Fr.of_kp (Kp.trans hk1 (Kp.trans (Kp.new _ _) (Kp.of_drewN _ _)))).mono (by simp)).trans (Fr.set _ ⟨b, 2, none⟩ _)).trans (Fr.set _ ⟨b, 8, none⟩ _)) (by rw [Htook.out]; exact (WalkAt.set (WalkAt.set (Kp.walk (Kp.of_drewN _ _) (HW.out _)) 2 (by omega)) 8 (by omega)))
      | true =>
        go_enter Tryz.func58, Tryz.ntmps58
        go_wp2_with fail
        (with_reducible refine (Hw.out w).mono ?_)
        rintro e w1 ⟨hk1, rfl⟩
        have hW : ∀ o, WalkAt (w1.alloc o) b S := fun o => Kp.walk (Kp.trans hk1 (Kp.new w1 o)) H.out
        have hE : ∀ o, Errs (w1.alloc o) E := fun o => Kp.errs (Kp.trans hk1 (Kp.new w1 o)) HE.out
        have c2 := fun o => (hW o 2 (by omega)).1
        have c8 := fun o => (hW o 8 (by omega)).1
        have z2 := fun o => (hW o 2 (by omega)).2
        have z8 := fun o => (hW o 8 (by omega)).2
        have e10 := fun o => (hE o).2.1
        have e11 := fun o => (hE o).2.2.1
        have e12 := fun o => (hE o).2.2.2
        have HW := Lib.hid hW; clear hW hE
        simp only [h1] at c2
        clear h1
        go_wp2_with fail
        go_quiet (fail)
        go_wp2_with fail
        (with_reducible refine (safe_any _ b S 0 (by omega) (Kp.walk (Kp.of_drewN _ _) (HW.out _))).mono ?_)
        rintro e w2 ⟨rfl, rfl⟩
        rw [hs]; clear hs
        go_wp2_with fail
        (with_reducible refine (safe_any _ b (tookL S 0 2) 0 (by omega) (by rw [Htook.out]; exact (WalkAt.set (WalkAt.set (Kp.walk (Kp.of_drewN _ _) (HW.out _)) 2 (by omega)) 8 (by omega)))).mono ?_)
        rintro e w3 ⟨rfl, rfl⟩
        by_cases hq : safeL (tookL S 0 2) 0 = true
        · skip
          have Hc := Lib.hid (show (if true && !safeL (tookL S 0 2) 0 then 12 else 0) = 0 by rw [hq]; rfl)
          rw [hq]; clear hq
          go_wp2_with fail
          go_ret
          exact Hpost.out _ 0 Hc.out ((((Fr.of_kp (Kp.trans hk1 (Kp.trans (Kp.new _ _) (Kp.of_drewN _ _)))).mono (by simp)).trans (Fr.set _ ⟨b, 2, none⟩ _)).trans (Fr.set _ ⟨b, 8, none⟩ _)) (by rw [Htook.out]; exact (WalkAt.set (WalkAt.set (Kp.walk (Kp.of_drewN _ _) (HW.out _)) 2 (by omega)) 8 (by omega)))
        · have hq : safeL (tookL S 0 2) 0 = false := by simpa using hq
          have Hc := Lib.hid (show (if true && !safeL (tookL S 0 2) 0 then 12 else 0) = 12 by rw [hq]; rfl)
          rw [hq]; clear hq
          go_wp2_with fail
          go_ret
          exact Hpost.out _ 12 Hc.out ((((Fr.of_kp (Kp.trans hk1 (Kp.trans (Kp.new _ _) (Kp.of_drewN _ _)))).mono (by simp)).trans (Fr.set _ ⟨b, 2, none⟩ _)).trans (Fr.set _ ⟨b, 8, none⟩ _)) (by rw [Htook.out]; exact (WalkAt.set (WalkAt.set (Kp.walk (Kp.of_drewN _ _) (HW.out _)) 2 (by omega)) 8 (by omega)))
    · have hs : safeL S 0 = false := by simpa using hs
      have hoff : offL S 0 2 last = 12 := by simp [offL, keyT, isSec, wantI, wantR, h1, hs]
      have hpost : ∀ w', Kp w w' → TakesPost w E b S 0 2 last (.returned (.iface 229 (.pointer (some (E 12))))) w' := fun w' hk => ⟨by rw [hoff]; rfl, (Fr.of_kp hk).mono (by simp), by rw [hoff]; simp⟩
      have Hpost := Lib.hid hpost; clear hpost hoff
      go_enter Tryz.func58, Tryz.ntmps58
      go_wp2_with fail
      (with_reducible refine (Hw.out w).mono ?_)
      rintro e w1 ⟨hk1, rfl⟩
      have hW : ∀ o, WalkAt (w1.alloc o) b S := fun o => Kp.walk (Kp.trans hk1 (Kp.new w1 o)) H.out
      have hE : ∀ o, Errs (w1.alloc o) E := fun o => Kp.errs (Kp.trans hk1 (Kp.new w1 o)) HE.out
      have c2 := fun o => (hW o 2 (by omega)).1
      have c8 := fun o => (hW o 8 (by omega)).1
      have z2 := fun o => (hW o 2 (by omega)).2
      have z8 := fun o => (hW o 8 (by omega)).2
      have e10 := fun o => (hE o).2.1
      have e11 := fun o => (hE o).2.2.1
      have e12 := fun o => (hE o).2.2.2
      have HW := Lib.hid hW; clear hW hE
      simp only [h1] at c2
      clear h1
      go_wp2_with fail
      go_quiet (fail)
      go_wp2_with fail
      (with_reducible refine (safe_any _ b S 0 (by omega) (Kp.walk (Kp.of_drewN _ _) (HW.out _))).mono ?_)
      rintro e w2 ⟨rfl, rfl⟩
      rw [hs]; clear hs
      go_wp2_with fail
      go_ret
      exact Hpost.out _ (Kp.trans hk1 (Kp.trans (Kp.new _ _) (Kp.of_drewN _ _)))

set_option maxRecDepth 100000 in
set_option maxHeartbeats 4000000 in
theorem takes_0_3 (w : World) (E : Nat → Addr) (hE : Errs w E) (b : Nat) (S : Nat → Bool) (h : WalkAt w b S) (last : Bool) : Calls Tryz.prog 58 #[.pointer (some ⟨b, 0, none⟩), iv 0, iv 3, .bool last] w (TakesPost w E b S 0 3 last) := by
  have Hw := Lib.hid (show ∀ w, Calls Tryz.prog 98 #[iv 3] w fun e w' => Kp w w' ∧ e = .returned (.tuple #[.agg #[iv 3, iv 1, iv 1], .bool true]) from fun w => wants_any w 3 (by omega) (by omega))
  have H := Lib.hid h; clear h
  have HE := Lib.hid hE; clear hE
  by_cases h1 : S 9 = true
  · skip
    have hoff : offL S 0 3 last = 10 := by simp [offL, keyT, isSec, h1]
    have hpost : ∀ w', Kp w w' → TakesPost w E b S 0 3 last (.returned (.iface 229 (.pointer (some (E 10))))) w' := fun w' hk => ⟨by rw [hoff]; rfl, (Fr.of_kp hk).mono (by simp), by rw [hoff]; simp⟩
    have Hpost := Lib.hid hpost; clear hpost hoff
    go_enter Tryz.func58, Tryz.ntmps58
    go_wp2_with fail
    (with_reducible refine (Hw.out w).mono ?_)
    rintro e w1 ⟨hk1, rfl⟩
    have hW : ∀ o, WalkAt (w1.alloc o) b S := fun o => Kp.walk (Kp.trans hk1 (Kp.new w1 o)) H.out
    have hE : ∀ o, Errs (w1.alloc o) E := fun o => Kp.errs (Kp.trans hk1 (Kp.new w1 o)) HE.out
    have c1 := fun o => (hW o 1 (by omega)).1
    have c4 := fun o => (hW o 4 (by omega)).1
    have c9 := fun o => (hW o 9 (by omega)).1
    have z9 := fun o => (hW o 9 (by omega)).2
    have e10 := fun o => (hE o).2.1
    have e11 := fun o => (hE o).2.2.1
    have e12 := fun o => (hE o).2.2.2
    have HW := Lib.hid hW; clear hW hE
    simp only [h1] at c9
    clear h1
    go_wp2_with fail
    go_ret
    exact Hpost.out _ (Kp.trans hk1 (Kp.new _ _))
  · have h1 : S 9 = false := by simpa using h1
    by_cases h2 : S 1 = true
    · skip
      by_cases h3 : S 4 = true
      · skip
        have hoff : offL S 0 3 last = if last && !safeL (tookL S 0 3) 0 then 12 else 0 := by simp [offL, keyT, isSec, wantI, wantR, h1, h2, h3]
        have hpost : ∀ w' c, (if last && !safeL (tookL S 0 3) 0 then 12 else 0) = c → Fr [b] w w' → WalkAt w' b (tookL S 0 3) → TakesPost w E b S 0 3 last (.returned (errV E c)) w' := fun w' c hc hk hw => ⟨by rw [hoff, hc], hk, fun _ => hw⟩
        have Hpost := Lib.hid hpost; clear hpost hoff
        have htook : tookL S 0 3 = upd S 9 true := rfl
        have Htook := Lib.hid htook; clear htook
        cases last with
        | false =>
          go_enter Tryz.func58, Tryz.ntmps58
          go_wp2_with fail
          (with_reducible refine (Hw.out w).mono ?_)
          rintro e w1 ⟨hk1, rfl⟩
          have hW : ∀ o, WalkAt (w1.alloc o) b S := fun o => Kp.walk (Kp.trans hk1 (Kp.new w1 o)) H.out
          have hE : ∀ o, Errs (w1.alloc o) E := fun o => Kp.errs (Kp.trans hk1 (Kp.new w1 o)) HE.out
          have c1 := fun o => (hW o 1 (by omega)).1
          have c4 := fun o => (hW o 4 (by omega)).1
          have c9 := fun o => (hW o 9 (by omega)).1
          have z9 := fun o => (hW o 9 (by omega)).2
          have e10 := fun o => (hE o).2.1
          have e11 := fun o => (hE o).2.2.1
          have e12 := fun o => (hE o).2.2.2
          have HW := Lib.hid hW; clear hW hE
          simp only [h1] at c9
          simp only [h2] at c1
          simp only [h3] at c4
          clear h1 h2 h3
          go_wp2_with fail
          go_quiet (fail)
          go_wp2_with fail
          go_ret
          exact Hpost.out _ 0 rfl (((Fr.of_kp (Kp.trans hk1 (Kp.trans (Kp.new _ _) (Kp.of_drewN _ _)))).mono (by simp)).trans (Fr.set _ ⟨b, 9, none⟩ _)) (by rw [Htook.out]; exact (WalkAt.set (Kp.walk (Kp.of_drewN _ _) (HW.out _)) 9 (by omega)))
        | true =>
          go_enter Tryz.func58, Tryz.ntmps58
          go_wp2_with fail
          (with_reducible refine (Hw.out w).mono ?_)
          rintro e w1 ⟨hk1, rfl⟩
          have hW : ∀ o, WalkAt (w1.alloc o) b S := fun o => Kp.walk (Kp.trans hk1 (Kp.new w1 o)) H.out
          have hE : ∀ o, Errs (w1.alloc o) E := fun o => Kp.errs (Kp.trans hk1 (Kp.new w1 o)) HE.out
          have c1 := fun o => (hW o 1 (by omega)).1
          have c4 := fun o => (hW o 4 (by omega)).1
          have c9 := fun o => (hW o 9 (by omega)).1
          have z9 := fun o => (hW o 9 (by omega)).2
          have e10 := fun o => (hE o).2.1
          have e11 := fun o => (hE o).2.2.1
          have e12 := fun o => (hE o).2.2.2
          have HW := Lib.hid hW; clear hW hE
          simp only [h1] at c9
          simp only [h2] at c1
          simp only [h3] at c4
          clear h1 h2 h3
          go_wp2_with fail
          go_quiet (fail)
          go_wp2_with fail
          (with_reducible refine (safe_any _ b (tookL S 0 3) 0 (by omega) (by rw [Htook.out]; exact (WalkAt.set (Kp.walk (Kp.of_drewN _ _) (HW.out _)) 9 (by omega)))).mono ?_)
          rintro e w3 ⟨rfl, rfl⟩
          by_cases hq : safeL (tookL S 0 3) 0 = true
          · skip
            have Hc := Lib.hid (show (if true && !safeL (tookL S 0 3) 0 then 12 else 0) = 0 by rw [hq]; rfl)
            rw [hq]; clear hq
            go_wp2_with fail
            go_ret
            exact Hpost.out _ 0 Hc.out (((Fr.of_kp (Kp.trans hk1 (Kp.trans (Kp.new _ _) (Kp.of_drewN _ _)))).mono (by simp)).trans (Fr.set _ ⟨b, 9, none⟩ _)) (by rw [Htook.out]; exact (WalkAt.set (Kp.walk (Kp.of_drewN _ _) (HW.out _)) 9 (by omega)))
          · have hq : safeL (tookL S 0 3) 0 = false := by simpa using hq
            have Hc := Lib.hid (show (if true && !safeL (tookL S 0 3) 0 then 12 else 0) = 12 by rw [hq]; rfl)
            rw [hq]; clear hq
            go_wp2_with fail
            go_ret
            exact Hpost.out _ 12 Hc.out (((Fr.of_kp (Kp.trans hk1 (Kp.trans (Kp.new _ _) (Kp.of_drewN _ _)))).mono (by simp)).trans (Fr.set _ ⟨b, 9, none⟩ _)) (by rw [Htook.out]; exact (WalkAt.set (Kp.walk (Kp.of_drewN _ _) (HW.out _)) 9 (by omega)))
      · have h3 : S 4 = false := by simpa using h3
        have hoff : offL S 0 3 last = 11 := by simp [offL, keyT, isSec, wantI, wantR, h1, h2, h3]
        have hpost : ∀ w', Kp w w' → TakesPost w E b S 0 3 last (.returned (.iface 229 (.pointer (some (E 11))))) w' := fun w' hk => ⟨by rw [hoff]; rfl, (Fr.of_kp hk).mono (by simp), by rw [hoff]; simp⟩
        have Hpost := Lib.hid hpost; clear hpost hoff
        go_enter Tryz.func58, Tryz.ntmps58
        go_wp2_with fail
        (with_reducible refine (Hw.out w).mono ?_)
        rintro e w1 ⟨hk1, rfl⟩
        have hW : ∀ o, WalkAt (w1.alloc o) b S := fun o => Kp.walk (Kp.trans hk1 (Kp.new w1 o)) H.out
        have hE : ∀ o, Errs (w1.alloc o) E := fun o => Kp.errs (Kp.trans hk1 (Kp.new w1 o)) HE.out
        have c1 := fun o => (hW o 1 (by omega)).1
        have c4 := fun o => (hW o 4 (by omega)).1
        have c9 := fun o => (hW o 9 (by omega)).1
        have z9 := fun o => (hW o 9 (by omega)).2
        have e10 := fun o => (hE o).2.1
        have e11 := fun o => (hE o).2.2.1
        have e12 := fun o => (hE o).2.2.2
        have HW := Lib.hid hW; clear hW hE
        simp only [h1] at c9
        simp only [h2] at c1
        simp only [h3] at c4
        clear h1 h2 h3
        go_wp2_with fail
        go_quiet (fail)
        go_wp2_with fail
        go_ret
        exact Hpost.out _ (Kp.trans hk1 (Kp.trans (Kp.new _ _) (Kp.of_drewN _ _)))
    · have h2 : S 1 = false := by simpa using h2
      have hoff : offL S 0 3 last = 11 := by simp [offL, keyT, isSec, wantI, wantR, h1, h2]
      have hpost : ∀ w', Kp w w' → TakesPost w E b S 0 3 last (.returned (.iface 229 (.pointer (some (E 11))))) w' := fun w' hk => ⟨by rw [hoff]; rfl, (Fr.of_kp hk).mono (by simp), by rw [hoff]; simp⟩
      have Hpost := Lib.hid hpost; clear hpost hoff
      go_enter Tryz.func58, Tryz.ntmps58
      go_wp2_with fail
      (with_reducible refine (Hw.out w).mono ?_)
      rintro e w1 ⟨hk1, rfl⟩
      have hW : ∀ o, WalkAt (w1.alloc o) b S := fun o => Kp.walk (Kp.trans hk1 (Kp.new w1 o)) H.out
      have hE : ∀ o, Errs (w1.alloc o) E := fun o => Kp.errs (Kp.trans hk1 (Kp.new w1 o)) HE.out
      have c1 := fun o => (hW o 1 (by omega)).1
      have c4 := fun o => (hW o 4 (by omega)).1
      have c9 := fun o => (hW o 9 (by omega)).1
      have z9 := fun o => (hW o 9 (by omega)).2
      have e10 := fun o => (hE o).2.1
      have e11 := fun o => (hE o).2.2.1
      have e12 := fun o => (hE o).2.2.2
      have HW := Lib.hid hW; clear hW hE
      simp only [h1] at c9
      simp only [h2] at c1
      clear h1 h2
      go_wp2_with fail
      go_quiet (fail)
      go_wp2_with fail
      go_ret
      exact Hpost.out _ (Kp.trans hk1 (Kp.trans (Kp.new _ _) (Kp.of_drewN _ _)))

set_option maxRecDepth 100000 in
set_option maxHeartbeats 4000000 in
theorem takes_0_4 (w : World) (E : Nat → Addr) (hE : Errs w E) (b : Nat) (S : Nat → Bool) (h : WalkAt w b S) (last : Bool) : Calls Tryz.prog 58 #[.pointer (some ⟨b, 0, none⟩), iv 0, iv 4, .bool last] w (TakesPost w E b S 0 4 last) := by
  have Hw := Lib.hid (show ∀ w, Calls Tryz.prog 98 #[iv 4] w fun e w' => Kp w w' ∧ e = .returned (.tuple #[.agg #[iv 4, iv 1, iv 2], .bool true]) from fun w => wants_any w 4 (by omega) (by omega))
  have H := Lib.hid h; clear h
  have HE := Lib.hid hE; clear hE
  by_cases h1 : S 10 = true
  · skip
    have hoff : offL S 0 4 last = 10 := by simp [offL, keyT, isSec, h1]
    have hpost : ∀ w', Kp w w' → TakesPost w E b S 0 4 last (.returned (.iface 229 (.pointer (some (E 10))))) w' := fun w' hk => ⟨by rw [hoff]; rfl, (Fr.of_kp hk).mono (by simp), by rw [hoff]; simp⟩
    have Hpost := Lib.hid hpost; clear hpost hoff
    go_enter Tryz.func58, Tryz.ntmps58
    go_wp2_with fail
    (with_reducible refine (Hw.out w).mono ?_)
    rintro e w1 ⟨hk1, rfl⟩
    have hW : ∀ o, WalkAt (w1.alloc o) b S := fun o => Kp.walk (Kp.trans hk1 (Kp.new w1 o)) H.out
    have hE : ∀ o, Errs (w1.alloc o) E := fun o => Kp.errs (Kp.trans hk1 (Kp.new w1 o)) HE.out
    have c1 := fun o => (hW o 1 (by omega)).1
    have c5 := fun o => (hW o 5 (by omega)).1
    have c10 := fun o => (hW o 10 (by omega)).1
    have z10 := fun o => (hW o 10 (by omega)).2
    have e10 := fun o => (hE o).2.1
    have e11 := fun o => (hE o).2.2.1
    have e12 := fun o => (hE o).2.2.2
    have HW := Lib.hid hW; clear hW hE
    simp only [h1] at c10
    clear h1
    go_wp2_with fail
    go_ret
    exact Hpost.out _ (Kp.trans hk1 (Kp.new _ _))
  · have h1 : S 10 = false := by simpa using h1
    by_cases h2 : S 1 = true
    · skip
      by_cases h3 : S 5 = true
      · skip
        have hoff : offL S 0 4 last = if last && !safeL (tookL S 0 4) 0 then 12 else 0 := by simp [offL, keyT, isSec, wantI, wantR, h1, h2, h3]
        have hpost : ∀ w' c, (if last && !safeL (tookL S 0 4) 0 then 12 else 0) = c → Fr [b] w w' → WalkAt w' b (tookL S 0 4) → TakesPost w E b S 0 4 last (.returned (errV E c)) w' := fun w' c hc hk hw => ⟨by rw [hoff, hc], hk, fun _ => hw⟩
        have Hpost := Lib.hid hpost; clear hpost hoff
        have htook : tookL S 0 4 = upd S 10 true := rfl
        have Htook := Lib.hid htook; clear htook
        cases last with
        | false =>
          go_enter Tryz.func58, Tryz.ntmps58
          go_wp2_with fail
          (with_reducible refine (Hw.out w).mono ?_)
          rintro e w1 ⟨hk1, rfl⟩
          have hW : ∀ o, WalkAt (w1.alloc o) b S := fun o => Kp.walk (Kp.trans hk1 (Kp.new w1 o)) H.out
          have hE : ∀ o, Errs (w1.alloc o) E := fun o => Kp.errs (Kp.trans hk1 (Kp.new w1 o)) HE.out
          have c1 := fun o => (hW o 1 (by omega)).1
          have c5 := fun o => (hW o 5 (by omega)).1
          have c10 := fun o => (hW o 10 (by omega)).1
          have z10 := fun o => (hW o 10 (by omega)).2
          have e10 := fun o => (hE o).2.1
          have e11 := fun o => (hE o).2.2.1
          have e12 := fun o => (hE o).2.2.2
          have HW := Lib.hid hW; clear hW hE
          simp only [h1] at c10
          simp only [h2] at c1
          simp only [h3] at c5
          clear h1 h2 h3
          go_wp2_with fail
          go_quiet (fail)
          go_wp2_with fail
          go_ret
          exact Hpost.out _ 0 rfl (((Fr.of_kp (Kp.trans hk1 (Kp.trans (Kp.new _ _) (Kp.of_drewN _ _)))).mono (by simp)).trans (Fr.set _ ⟨b, 10, none⟩ _)) (by rw [Htook.out]; exact (WalkAt.set (Kp.walk (Kp.of_drewN _ _) (HW.out _)) 10 (by omega)))
        | true =>
          go_enter Tryz.func58, Tryz.ntmps58
          go_wp2_with fail
          (with_reducible refine (Hw.out w).mono ?_)
          rintro e w1 ⟨hk1, rfl⟩
          have hW : ∀ o, WalkAt (w1.alloc o) b S := fun o => Kp.walk (Kp.trans hk1 (Kp.new w1 o)) H.out
          have hE : ∀ o, Errs (w1.alloc o) E := fun o => Kp.errs (Kp.trans hk1 (Kp.new w1 o)) HE.out
          have c1 := fun o => (hW o 1 (by omega)).1
          have c5 := fun o => (hW o 5 (by omega)).1
          have c10 := fun o => (hW o 10 (by omega)).1
          have z10 := fun o => (hW o 10 (by omega)).2
          have e10 := fun o => (hE o).2.1
          have e11 := fun o => (hE o).2.2.1
          have e12 := fun o => (hE o).2.2.2
          have HW := Lib.hid hW; clear hW hE
          simp only [h1] at c10
          simp only [h2] at c1
          simp only [h3] at c5
          clear h1 h2 h3
          go_wp2_with fail
          go_quiet (fail)
          go_wp2_with fail
          (with_reducible refine (safe_any _ b (tookL S 0 4) 0 (by omega) (by rw [Htook.out]; exact (WalkAt.set (Kp.walk (Kp.of_drewN _ _) (HW.out _)) 10 (by omega)))).mono ?_)
          rintro e w3 ⟨rfl, rfl⟩
          by_cases hq : safeL (tookL S 0 4) 0 = true
          · skip
            have Hc := Lib.hid (show (if true && !safeL (tookL S 0 4) 0 then 12 else 0) = 0 by rw [hq]; rfl)
            rw [hq]; clear hq
            go_wp2_with fail
            go_ret
            exact Hpost.out _ 0 Hc.out (((Fr.of_kp (Kp.trans hk1 (Kp.trans (Kp.new _ _) (Kp.of_drewN _ _)))).mono (by simp)).trans (Fr.set _ ⟨b, 10, none⟩ _)) (by rw [Htook.out]; exact (WalkAt.set (Kp.walk (Kp.of_drewN _ _) (HW.out _)) 10 (by omega)))
          · have hq : safeL (tookL S 0 4) 0 = false := by simpa using hq
            have Hc := Lib.hid (show (if true && !safeL (tookL S 0 4) 0 then 12 else 0) = 12 by rw [hq]; rfl)
            rw [hq]; clear hq
            go_wp2_with fail
            go_ret
            exact Hpost.out _ 12 Hc.out (((Fr.of_kp (Kp.trans hk1 (Kp.trans (Kp.new _ _) (Kp.of_drewN _ _)))).mono (by simp)).trans (Fr.set _ ⟨b, 10, none⟩ _)) (by rw [Htook.out]; exact (WalkAt.set (Kp.walk (Kp.of_drewN _ _) (HW.out _)) 10 (by omega)))
      · have h3 : S 5 = false := by simpa using h3
        have hoff : offL S 0 4 last = 11 := by simp [offL, keyT, isSec, wantI, wantR, h1, h2, h3]
        have hpost : ∀ w', Kp w w' → TakesPost w E b S 0 4 last (.returned (.iface 229 (.pointer (some (E 11))))) w' := fun w' hk => ⟨by rw [hoff]; rfl, (Fr.of_kp hk).mono (by simp), by rw [hoff]; simp⟩
        have Hpost := Lib.hid hpost; clear hpost hoff
        go_enter Tryz.func58, Tryz.ntmps58
        go_wp2_with fail
        (with_reducible refine (Hw.out w).mono ?_)
        rintro e w1 ⟨hk1, rfl⟩
        have hW : ∀ o, WalkAt (w1.alloc o) b S := fun o => Kp.walk (Kp.trans hk1 (Kp.new w1 o)) H.out
        have hE : ∀ o, Errs (w1.alloc o) E := fun o => Kp.errs (Kp.trans hk1 (Kp.new w1 o)) HE.out
        have c1 := fun o => (hW o 1 (by omega)).1
        have c5 := fun o => (hW o 5 (by omega)).1
        have c10 := fun o => (hW o 10 (by omega)).1
        have z10 := fun o => (hW o 10 (by omega)).2
        have e10 := fun o => (hE o).2.1
        have e11 := fun o => (hE o).2.2.1
        have e12 := fun o => (hE o).2.2.2
        have HW := Lib.hid hW; clear hW hE
        simp only [h1] at c10
        simp only [h2] at c1
        simp only [h3] at c5
        clear h1 h2 h3
        go_wp2_with fail
        go_quiet (fail)
        go_wp2_with fail
        go_ret
        exact Hpost.out _ (Kp.trans hk1 (Kp.trans (Kp.new _ _) (Kp.of_drewN _ _)))
    · have h2 : S 1 = false := by simpa using h2
      have hoff : offL S 0 4 last = 11 := by simp [offL, keyT, isSec, wantI, wantR, h1, h2]
      have hpost : ∀ w', Kp w w' → TakesPost w E b S 0 4 last (.returned (.iface 229 (.pointer (some (E 11))))) w' := fun w' hk => ⟨by rw [hoff]; rfl, (Fr.of_kp hk).mono (by simp), by rw [hoff]; simp⟩
      have Hpost := Lib.hid hpost; clear hpost hoff
      go_enter Tryz.func58, Tryz.ntmps58
      go_wp2_with fail
      (with_reducible refine (Hw.out w).mono ?_)
      rintro e w1 ⟨hk1, rfl⟩
      have hW : ∀ o, WalkAt (w1.alloc o) b S := fun o => Kp.walk (Kp.trans hk1 (Kp.new w1 o)) H.out
      have hE : ∀ o, Errs (w1.alloc o) E := fun o => Kp.errs (Kp.trans hk1 (Kp.new w1 o)) HE.out
      have c1 := fun o => (hW o 1 (by omega)).1
      have c5 := fun o => (hW o 5 (by omega)).1
      have c10 := fun o => (hW o 10 (by omega)).1
      have z10 := fun o => (hW o 10 (by omega)).2
      have e10 := fun o => (hE o).2.1
      have e11 := fun o => (hE o).2.2.1
      have e12 := fun o => (hE o).2.2.2
      have HW := Lib.hid hW; clear hW hE
      simp only [h1] at c10
      simp only [h2] at c1
      clear h1 h2
      go_wp2_with fail
      go_quiet (fail)
      go_wp2_with fail
      go_ret
      exact Hpost.out _ (Kp.trans hk1 (Kp.trans (Kp.new _ _) (Kp.of_drewN _ _)))

set_option maxRecDepth 100000 in
set_option maxHeartbeats 4000000 in
theorem takes_0_5 (w : World) (E : Nat → Addr) (hE : Errs w E) (b : Nat) (S : Nat → Bool) (h : WalkAt w b S) (last : Bool) : Calls Tryz.prog 58 #[.pointer (some ⟨b, 0, none⟩), iv 0, iv 5, .bool last] w (TakesPost w E b S 0 5 last) := by
  have Hw := Lib.hid (show ∀ w, Calls Tryz.prog 98 #[iv 5] w fun e w' => Kp w w' ∧ e = .returned (.tuple #[.agg #[iv 5, iv 2, iv 1], .bool true]) from fun w => wants_any w 5 (by omega) (by omega))
  have H := Lib.hid h; clear h
  have HE := Lib.hid hE; clear hE
  by_cases h1 : S 11 = true
  · skip
    have hoff : offL S 0 5 last = 10 := by simp [offL, keyT, isSec, h1]
    have hpost : ∀ w', Kp w w' → TakesPost w E b S 0 5 last (.returned (.iface 229 (.pointer (some (E 10))))) w' := fun w' hk => ⟨by rw [hoff]; rfl, (Fr.of_kp hk).mono (by simp), by rw [hoff]; simp⟩
    have Hpost := Lib.hid hpost; clear hpost hoff
    go_enter Tryz.func58, Tryz.ntmps58
    go_wp2_with fail
    (with_reducible refine (Hw.out w).mono ?_)
    rintro e w1 ⟨hk1, rfl⟩
    have hW : ∀ o, WalkAt (w1.alloc o) b S := fun o => Kp.walk (Kp.trans hk1 (Kp.new w1 o)) H.out
    have hE : ∀ o, Errs (w1.alloc o) E := fun o => Kp.errs (Kp.trans hk1 (Kp.new w1 o)) HE.out
    have c2 := fun o => (hW o 2 (by omega)).1
    have c4 := fun o => (hW o 4 (by omega)).1
    have c11 := fun o => (hW o 11 (by omega)).1
    have z11 := fun o => (hW o 11 (by omega)).2
    have e10 := fun o => (hE o).2.1
    have e11 := fun o => (hE o).2.2.1
    have e12 := fun o => (hE o).2.2.2
    have HW := Lib.hid hW; clear hW hE
    simp only [h1] at c11
    clear h1
    go_wp2_with fail
    go_ret
    exact Hpost.out _ (Kp.trans hk1 (Kp.new _ _))
  · have h1 : S 11 = false := by simpa using h1
    by_cases h2 : S 2 = true
    · skip
      by_cases h3 : S 4 = true
      · skip
        have hoff : offL S 0 5 last = if last && !safeL (tookL S 0 5) 0 then 12 else 0 := by simp [offL, keyT, isSec, wantI, wantR, h1, h2, h3]
        have hpost : ∀ w' c, (if last && !safeL (tookL S 0 5) 0 then 12 else 0) = c → Fr [b] w w' → WalkAt w' b (tookL S 0 5) → TakesPost w E b S 0 5 last (.returned (errV E c)) w' := fun w' c hc hk hw => ⟨by rw [hoff, hc], hk, fun _ => hw⟩
        have Hpost := Lib.hid hpost; clear hpost hoff
        have htook : tookL S 0 5 = upd S 11 true := rfl
        have Htook := Lib.hid htook; clear htook
        cases last with
        | false =>
          go_enter Tryz.func58, Tryz.ntmps58
          go_wp2_with fail
          (with_reducible refine (Hw.out w).mono ?_)
          rintro e w1 ⟨hk1, rfl⟩
          have hW : ∀ o, WalkAt (w1.alloc o) b S := fun o => Kp.walk (Kp.trans hk1 (Kp.new w1 o)) H.out
          have hE : ∀ o, Errs (w1.alloc o) E := fun o => Kp.errs (Kp.trans hk1 (Kp.new w1 o)) HE.out
          have c2 := fun o => (hW o 2 (by omega)).1
          have c4 := fun o => (hW o 4 (by omega)).1
          have c11 := fun o => (hW o 11 (by omega)).1
          have z11 := fun o => (hW o 11 (by omega)).2
          have e10 := fun o => (hE o).2.1
          have e11 := fun o => (hE o).2.2.1
          have e12 := fun o => (hE o).2.2.2
          have HW := Lib.hid hW; clear hW hE
          simp only [h1] at c11
          simp only [h2] at c2
          simp only [h3] at c4
          clear h1 h2 h3
          go_wp2_with fail
          go_quiet (fail)
          go_wp2_with fail
          go_ret
          exact Hpost.out _ 0 rfl (((Fr.of_kp (Kp.trans hk1 (Kp.trans (Kp.new _ _) (Kp.of_drewN _ _)))).mono (by simp)).trans (Fr.set _ ⟨b, 11, none⟩ _)) (by rw [Htook.out]; exact (WalkAt.set (Kp.walk (Kp.of_drewN _ _) (HW.out _)) 11 (by omega)))
        | true =>
          go_enter Tryz.func58, Tryz.ntmps58
          go_wp2_with fail
          (with_reducible refine (Hw.out w).mono ?_)
          rintro e w1 ⟨hk1, rfl⟩
          have hW : ∀ o, WalkAt (w1.alloc o) b S := fun o => Kp.walk (Kp.trans hk1 (Kp.new w1 o)) H.out
          have hE : ∀ o, Errs (w1.alloc o) E := fun o => Kp.errs (Kp.trans hk1 (Kp.new w1 o)) HE.out
          have c2 := fun o => (hW o 2 (by omega)).1
          have c4 := fun o => (hW o 4 (by omega)).1
          have c11 := fun o => (hW o 11 (by omega)).1
          have z11 := fun o => (hW o 11 (by omega)).2
          have e10 := fun o => (hE o).2.1
          have e11 := fun o => (hE o).2.2.1
          have e12 := fun o => (hE o).2.2.2
          have HW := Lib.hid hW; clear hW hE
          simp only [h1] at c11
          simp only [h2] at c2
          simp only [h3] at c4
          clear h1 h2 h3
          go_wp2_with fail
          go_quiet (fail)
          go_wp2_with fail
          (with_reducible refine (safe_any _ b (tookL S 0 5) 0 (by omega) (by rw [Htook.out]; exact (WalkAt.set (Kp.walk (Kp.of_drewN _ _) (HW.out _)) 11 (by omega)))).mono ?_)
          rintro e w3 ⟨rfl, rfl⟩
          by_cases hq : safeL (tookL S 0 5) 0 = true
          · skip
            have Hc := Lib.hid (show (if true && !safeL (tookL S 0 5) 0 then 12 else 0) = 0 by rw [hq]; rfl)
            rw [hq]; clear hq
            go_wp2_with fail
            go_ret
            exact Hpost.out _ 0 Hc.out (((Fr.of_kp (Kp.trans hk1 (Kp.trans (Kp.new _ _) (Kp.of_drewN _ _)))).mono (by simp)).trans (Fr.set _ ⟨b, 11, none⟩ _)) (by rw [Htook.out]; exact (WalkAt.set (Kp.walk (Kp.of_drewN _ _) (HW.out _)) 11 (by omega)))
          · have hq : safeL (tookL S 0 5) 0 = false := by simpa using hq
            have Hc := Lib.hid (show (if true && !safeL (tookL S 0 5) 0 then 12 else 0) = 12 by rw [hq]; rfl)
            rw [hq]; clear hq
            go_wp2_with fail
            go_ret
            exact Hpost.out _ 12 Hc.out (((Fr.of_kp (Kp.trans hk1 (Kp.trans (Kp.new _ _) (Kp.of_drewN _ _)))).mono (by simp)).trans (Fr.set _ ⟨b, 11, none⟩ _)) (by rw [Htook.out]; exact (WalkAt.set (Kp.walk (Kp.of_drewN _ _) (HW.out _)) 11 (by omega)))
      · have h3 : S 4 = false := by simpa using h3
        have hoff : offL S 0 5 last = 11 := by simp [offL, keyT, isSec, wantI, wantR, h1, h2, h3]
        have hpost : ∀ w', Kp w w' → TakesPost w E b S 0 5 last (.returned (.iface 229 (.pointer (some (E 11))))) w' := fun w' hk => ⟨by rw [hoff]; rfl, (Fr.of_kp hk).mono (by simp), by rw [hoff]; simp⟩
        have Hpost := Lib.hid hpost; clear hpost hoff
        go_enter Tryz.func58, Tryz.ntmps58
        go_wp2_with fail
        (with_reducible refine (Hw.out w).mono ?_)
        rintro e w1 ⟨hk1, rfl⟩
        have hW : ∀ o, WalkAt (w1.alloc o) b S := fun o => Kp.walk (Kp.trans hk1 (Kp.new w1 o)) H.out
        have hE : ∀ o, Errs (w1.alloc o) E := fun o => Kp.errs (Kp.trans hk1 (Kp.new w1 o)) HE.out
        have c2 := fun o => (hW o 2 (by omega)).1
        have c4 := fun o => (hW o 4 (by omega)).1
        have c11 := fun o => (hW o 11 (by omega)).1
        have z11 := fun o => (hW o 11 (by omega)).2
        have e10 := fun o => (hE o).2.1
        have e11 := fun o => (hE o).2.2.1
        have e12 := fun o => (hE o).2.2.2
        have HW := Lib.hid hW; clear hW hE
        simp only [h1] at c11
        simp only [h2] at c2
        simp only [h3] at c4
        clear h1 h2 h3
        go_wp2_with fail
        go_quiet (fail)
        go_wp2_with fail
        go_ret
        exact Hpost.out _ (Kp.trans hk1 (Kp.trans (Kp.new _ _) (Kp.of_drewN _ _)))
    · have h2 : S 2 = false := by simpa using h2
      have hoff : offL S 0 5 last = 11 := by simp [offL, keyT, isSec, wantI, wantR, h1, h2]
      have hpost : ∀ w', Kp w w' → TakesPost w E b S 0 5 last (.returned (.iface 229 (.pointer (some (E 11))))) w' := fun w' hk => ⟨by rw [hoff]; rfl, (Fr.of_kp hk).mono (by simp), by rw [hoff]; simp⟩
      have Hpost := Lib.hid hpost; clear hpost hoff
      go_enter Tryz.func58, Tryz.ntmps58
      go_wp2_with fail
      (with_reducible refine (Hw.out w).mono ?_)
      rintro e w1 ⟨hk1, rfl⟩
      have hW : ∀ o, WalkAt (w1.alloc o) b S := fun o => Kp.walk (Kp.trans hk1 (Kp.new w1 o)) H.out
      have hE : ∀ o, Errs (w1.alloc o) E := fun o => Kp.errs (Kp.trans hk1 (Kp.new w1 o)) HE.out
      have c2 := fun o => (hW o 2 (by omega)).1
      have c4 := fun o => (hW o 4 (by omega)).1
      have c11 := fun o => (hW o 11 (by omega)).1
      have z11 := fun o => (hW o 11 (by omega)).2
      have e10 := fun o => (hE o).2.1
      have e11 := fun o => (hE o).2.2.1
      have e12 := fun o => (hE o).2.2.2
      have HW := Lib.hid hW; clear hW hE
      simp only [h1] at c11
      simp only [h2] at c2
      clear h1 h2
      go_wp2_with fail
      go_quiet (fail)
      go_wp2_with fail
      go_ret
      exact Hpost.out _ (Kp.trans hk1 (Kp.trans (Kp.new _ _) (Kp.of_drewN _ _)))

set_option maxRecDepth 100000 in
set_option maxHeartbeats 4000000 in
theorem takes_0_6 (w : World) (E : Nat → Addr) (hE : Errs w E) (b : Nat) (S : Nat → Bool) (h : WalkAt w b S) (last : Bool) : Calls Tryz.prog 58 #[.pointer (some ⟨b, 0, none⟩), iv 0, iv 6, .bool last] w (TakesPost w E b S 0 6 last) := by
  have Hw := Lib.hid (show ∀ w, Calls Tryz.prog 98 #[iv 6] w fun e w' => Kp w w' ∧ e = .returned (.tuple #[.agg #[iv 6, iv 2, iv 2], .bool true]) from fun w => wants_any w 6 (by omega) (by omega))
  have H := Lib.hid h; clear h
  have HE := Lib.hid hE; clear hE
  by_cases h1 : S 12 = true
  · skip
    have hoff : offL S 0 6 last = 10 := by simp [offL, keyT, isSec, h1]
    have hpost : ∀ w', Kp w w' → TakesPost w E b S 0 6 last (.returned (.iface 229 (.pointer (some (E 10))))) w' := fun w' hk => ⟨by rw [hoff]; rfl, (Fr.of_kp hk).mono (by simp), by rw [hoff]; simp⟩
    have Hpost := Lib.hid hpost; clear hpost hoff
    go_enter Tryz.func58, Tryz.ntmps58
    go_wp2_with fail
    (with_reducible refine (Hw.out w).mono ?_)
    rintro e w1 ⟨hk1, rfl⟩
    have hW : ∀ o, WalkAt (w1.alloc o) b S := fun o => Kp.walk (Kp.trans hk1 (Kp.new w1 o)) H.out
    have hE : ∀ o, Errs (w1.alloc o) E := fun o => Kp.errs (Kp.trans hk1 (Kp.new w1 o)) HE.out
    have c2 := fun o => (hW o 2 (by omega)).1
    have c5 := fun o => (hW o 5 (by omega)).1
    have c12 := fun o => (hW o 12 (by omega)).1
    have z12 := fun o => (hW o 12 (by omega)).2
    have e10 := fun o => (hE o).2.1
    have e11 := fun o => (hE o).2.2.1
    have e12 := fun o => (hE o).2.2.2
    have HW := Lib.hid hW; clear hW hE
    simp only [h1] at c12
    clear h1
    go_wp2_with fail
    go_ret
    exact Hpost.out _ (Kp.trans hk1 (Kp.new _ _))
  · have h1 : S 12 = false := by simpa using h1
    by_cases h2 : S 2 = true
    · skip
      by_cases h3 : S 5 = true
      · skip
        have hoff : offL S 0 6 last = if last && !safeL (tookL S 0 6) 0 then 12 else 0 := by simp [offL, keyT, isSec, wantI, wantR, h1, h2, h3]
        have hpost : ∀ w' c, (if last && !safeL (tookL S 0 6) 0 then 12 else 0) = c → Fr [b] w w' → WalkAt w' b (tookL S 0 6) → TakesPost w E b S 0 6 last (.returned (errV E c)) w' := fun w' c hc hk hw => ⟨by rw [hoff, hc], hk, fun _ => hw⟩
        have Hpost := Lib.hid hpost; clear hpost hoff
        have htook : tookL S 0 6 = upd S 12 true := rfl
        have Htook := Lib.hid htook; clear htook
        cases last with
        | false =>
          go_enter Tryz.func58, Tryz.ntmps58
          go_wp2_with fail
          (with_reducible refine (Hw.out w).mono ?_)
          rintro e w1 ⟨hk1, rfl⟩
          have hW : ∀ o, WalkAt (w1.alloc o) b S := fun o => Kp.walk (Kp.trans hk1 (Kp.new w1 o)) H.out
          have hE : ∀ o, Errs (w1.alloc o) E := fun o => Kp.errs (Kp.trans hk1 (Kp.new w1 o)) HE.out
          have c2 := fun o => (hW o 2 (by omega)).1
          have c5 := fun o => (hW o 5 (by omega)).1
          have c12 := fun o => (hW o 12 (by omega)).1
          have z12 := fun o => (hW o 12 (by omega)).2
          have e10 := fun o => (hE o).2.1
          have e11 := fun o => (hE o).2.2.1
          have e12 := fun o => (hE o).2.2.2
          have HW := Lib.hid hW; clear hW hE
          simp only [h1] at c12
          simp only [h2] at c2
          simp only [h3] at c5
          clear h1 h2 h3
          go_wp2_with fail
          go_quiet (fail)
          go_wp2_with fail
          go_ret
          exact Hpost.out _ 0 rfl (((Fr.of_kp (Kp.trans hk1 (Kp.trans (Kp.new _ _) (Kp.of_drewN _ _)))).mono (by simp)).trans (Fr.set _ ⟨b, 12, none⟩ _)) (by rw [Htook.out]; exact (WalkAt.set (Kp.walk (Kp.of_drewN _ _) (HW.out _)) 12 (by omega)))
        | true =>
          go_enter Tryz.func58, Tryz.ntmps58
          go_wp2_with fail
          (with_reducible refine (Hw.out w).mono ?_)
          rintro e w1 ⟨hk1, rfl⟩
          have hW : ∀ o, WalkAt (w1.alloc o) b S := fun o => Kp.walk (Kp.trans hk1 (Kp.new w1 o)) H.out
          have hE : ∀ o, Errs (w1.alloc o) E := fun o => Kp.errs (Kp.trans hk1 (Kp.new w1 o)) HE.out
          have c2 := fun o => (hW o 2 (by omega)).1
          have c5 := fun o => (hW o 5 (by omega)).1
          have c12 := fun o => (hW o 12 (by omega)).1
          have z12 := fun o => (hW o 12 (by omega)).2
          have e10 := fun o => (hE o).2.1
          have e11 := fun o => (hE o).2.2.1
          have e12 := fun o => (hE o).2.2.2
          have HW := Lib.hid hW; clear hW hE
          simp only [h1] at c12
          simp only [h2] at c2
          simp only [h3] at c5
          clear h1 h2 h3
          go_wp2_with fail
          go_quiet (fail)
          go_wp2_with fail
          (with_reducible refine (safe_any _ b (tookL S 0 6) 0 (by omega) (by rw [Htook.out]; exact (WalkAt.set (Kp.walk (Kp.of_drewN _ _) (HW.out _)) 12 (by omega)))).mono ?_)
          rintro e w3 ⟨rfl, rfl⟩
          by_cases hq : safeL (tookL S 0 6) 0 = true
          · skip
            have Hc := Lib.hid (show (if true && !safeL (tookL S 0 6) 0 then 12 else 0) = 0 by rw [hq]; rfl)
            rw [hq]; clear hq
            go_wp2_with fail
            go_ret
            exact Hpost.out _ 0 Hc.out (((Fr.of_kp (Kp.trans hk1 (Kp.trans (Kp.new _ _) (Kp.of_drewN _ _)))).mono (by simp)).trans (Fr.set _ ⟨b, 12, none⟩ _)) (by rw [Htook.out]; exact (WalkAt.set (Kp.walk (Kp.of_drewN _ _) (HW.out _)) 12 (by omega)))
          · have hq : safeL (tookL S 0 6) 0 = false := by simpa using hq
            have Hc := Lib.hid (show (if true && !safeL (tookL S 0 6) 0 then 12 else 0) = 12 by rw [hq]; rfl)
            rw [hq]; clear hq
            go_wp2_with fail
            go_ret
            exact Hpost.out _ 12 Hc.out (((Fr.of_kp (Kp.trans hk1 (Kp.trans (Kp.new _ _) (Kp.of_drewN _ _)))).mono (by simp)).trans (Fr.set _ ⟨b, 12, none⟩ _)) (by rw [Htook.out]; exact (WalkAt.set (Kp.walk (Kp.of_drewN _ _) (HW.out _)) 12 (by omega)))
      · have h3 : S 5 = false := by simpa using h3
        have hoff : offL S 0 6 last = 11 := by simp [offL, keyT, isSec, wantI, wantR, h1, h2, h3]
        have hpost : ∀ w', Kp w w' → TakesPost w E b S 0 6 last (.returned (.iface 229 (.pointer (some (E 11))))) w' := fun w' hk => ⟨by rw [hoff]; rfl, (Fr.of_kp hk).mono (by simp), by rw [hoff]; simp⟩
        have Hpost := Lib.hid hpost; clear hpost hoff
        go_enter Tryz.func58, Tryz.ntmps58
        go_wp2_with fail
        (with_reducible refine (Hw.out w).mono ?_)
        rintro e w1 ⟨hk1, rfl⟩
        have hW : ∀ o, WalkAt (w1.alloc o) b S := fun o => Kp.walk (Kp.trans hk1 (Kp.new w1 o)) H.out
        have hE : ∀ o, Errs (w1.alloc o) E := fun o => Kp.errs (Kp.trans hk1 (Kp.new w1 o)) HE.out
        have c2 := fun o => (hW o 2 (by omega)).1
        have c5 := fun o => (hW o 5 (by omega)).1
        have c12 := fun o => (hW o 12 (by omega)).1
        have z12 := fun o => (hW o 12 (by omega)).2
        have e10 := fun o => (hE o).2.1
        have e11 := fun o => (hE o).2.2.1
        have e12 := fun o => (hE o).2.2.2
        have HW := Lib.hid hW; clear hW hE
        simp only [h1] at c12
        simp only [h2] at c2
        simp only [h3] at c5
        clear h1 h2 h3
        go_wp2_with fail
        go_quiet (fail)
        go_wp2_with fail
        go_ret
        exact Hpost.out _ (Kp.trans hk1 (Kp.trans (Kp.new _ _) (Kp.of_drewN _ _)))
    · have h2 : S 2 = false := by simpa using h2
      have hoff : offL S 0 6 last = 11 := by simp [offL, keyT, isSec, wantI, wantR, h1, h2]
      have hpost : ∀ w', Kp w w' → TakesPost w E b S 0 6 last (.returned (.iface 229 (.pointer (some (E 11))))) w' := fun w' hk => ⟨by rw [hoff]; rfl, (Fr.of_kp hk).mono (by simp), by rw [hoff]; simp⟩
      have Hpost := Lib.hid hpost; clear hpost hoff
      go_enter Tryz.func58, Tryz.ntmps58
      go_wp2_with fail
      (with_reducible refine (Hw.out w).mono ?_)
      rintro e w1 ⟨hk1, rfl⟩
      have hW : ∀ o, WalkAt (w1.alloc o) b S := fun o => Kp.walk (Kp.trans hk1 (Kp.new w1 o)) H.out
      have hE : ∀ o, Errs (w1.alloc o) E := fun o => Kp.errs (Kp.trans hk1 (Kp.new w1 o)) HE.out
      have c2 := fun o => (hW o 2 (by omega)).1
      have c5 := fun o => (hW o 5 (by omega)).1
      have c12 := fun o => (hW o 12 (by omega)).1
      have z12 := fun o => (hW o 12 (by omega)).2
      have e10 := fun o => (hE o).2.1
      have e11 := fun o => (hE o).2.2.1
      have e12 := fun o => (hE o).2.2.2
      have HW := Lib.hid hW; clear hW hE
      simp only [h1] at c12
      simp only [h2] at c2
      clear h1 h2
      go_wp2_with fail
      go_quiet (fail)
      go_wp2_with fail
      go_ret
      exact Hpost.out _ (Kp.trans hk1 (Kp.trans (Kp.new _ _) (Kp.of_drewN _ _)))

set_option maxRecDepth 100000 in
set_option maxHeartbeats 4000000 in
theorem takes_0_7 (w : World) (E : Nat → Addr) (hE : Errs w E) (b : Nat) (S : Nat → Bool) (h : WalkAt w b S) (last : Bool) : Calls Tryz.prog 58 #[.pointer (some ⟨b, 0, none⟩), iv 0, iv 7, .bool last] w (TakesPost w E b S 0 7 last) := by
  have Hw := Lib.hid (show ∀ w, Calls Tryz.prog 98 #[iv 7] w fun e w' => Kp w w' ∧ e = .returned (.tuple #[.agg #[iv 0, iv 0, iv 0], .bool false]) from fun w => wants_any w 7 (by omega) (by omega))
  have H := Lib.hid h; clear h
  have HE := Lib.hid hE; clear hE
  have hoff : offL S 0 7 last = if last && !safeL (tookL S 0 7) 0 then 12 else 0 := by simp [offL, keyT, isSec]
  have hpost : ∀ w' c, (if last && !safeL (tookL S 0 7) 0 then 12 else 0) = c → Fr [b] w w' → WalkAt w' b (tookL S 0 7) → TakesPost w E b S 0 7 last (.returned (errV E c)) w' := fun w' c hc hk hw => ⟨by rw [hoff, hc], hk, fun _ => hw⟩
  have Hpost := Lib.hid hpost; clear hpost hoff
  have htook : tookL S 0 7 = upd S 13 true := rfl
  have Htook := Lib.hid htook; clear htook
  cases last with
  | false =>
    go_enter Tryz.func58, Tryz.ntmps58
    go_wp2_with fail
    (with_reducible refine (Hw.out w).mono ?_)
    rintro e w1 ⟨hk1, rfl⟩
    have hW : ∀ o, WalkAt (w1.alloc o) b S := fun o => Kp.walk (Kp.trans hk1 (Kp.new w1 o)) H.out
    have hE : ∀ o, Errs (w1.alloc o) E := fun o => Kp.errs (Kp.trans hk1 (Kp.new w1 o)) HE.out
    have c13 := fun o => (hW o 13 (by omega)).1
    have z13 := fun o => (hW o 13 (by omega)).2
    have e10 := fun o => (hE o).2.1
    have e11 := fun o => (hE o).2.2.1
    have e12 := fun o => (hE o).2.2.2
    have HW := Lib.hid hW; clear hW hE
    go_wp2_with fail
    go_quiet (fail)
    go_wp2_with fail
    go_ret
    exact Hpost.out _ 0 rfl (((Fr.of_kp (Kp.trans hk1 (Kp.trans (Kp.new _ _) (Kp.of_drewN _ _)))).mono (by simp)).trans (Fr.set _ ⟨b, 13, none⟩ _)) (by rw [Htook.out]; exact (WalkAt.set (Kp.walk (Kp.of_drewN _ _) (HW.out _)) 13 (by omega)))
  | true =>
    go_enter Tryz.func58, Tryz.ntmps58
    go_wp2_with fail
    (with_reducible refine (Hw.out w).mono ?_)
    rintro e w1 ⟨hk1, rfl⟩
    have hW : ∀ o, WalkAt (w1.alloc o) b S := fun o => Kp.walk (Kp.trans hk1 (Kp.new w1 o)) H.out
    have hE : ∀ o, Errs (w1.alloc o) E := fun o => Kp.errs (Kp.trans hk1 (Kp.new w1 o)) HE.out
    have c13 := fun o => (hW o 13 (by omega)).1
    have z13 := fun o => (hW o 13 (by omega)).2
    have e10 := fun o => (hE o).2.1
    have e11 := fun o => (hE o).2.2.1
    have e12 := fun o => (hE o).2.2.2
    have HW := Lib.hid hW; clear hW hE
    go_wp2_with fail
    go_quiet (fail)
    go_wp2_with fail
    (with_reducible refine (safe_any _ b (tookL S 0 7) 0 (by omega) (by rw [Htook.out]; exact (WalkAt.set (Kp.walk (Kp.of_drewN _ _) (HW.out _)) 13 (by omega)))).mono ?_)
    rintro e w3 ⟨rfl, rfl⟩
    by_cases hq : safeL (tookL S 0 7) 0 = true
    · skip
      have Hc := Lib.hid (show (if true && !safeL (tookL S 0 7) 0 then 12 else 0) = 0 by rw [hq]; rfl)
      rw [hq]; clear hq
      go_wp2_with fail
      go_ret
      exact Hpost.out _ 0 Hc.out (((Fr.of_kp (Kp.trans hk1 (Kp.trans (Kp.new _ _) (Kp.of_drewN _ _)))).mono (by simp)).trans (Fr.set _ ⟨b, 13, none⟩ _)) (by rw [Htook.out]; exact (WalkAt.set (Kp.walk (Kp.of_drewN _ _) (HW.out _)) 13 (by omega)))
    · have hq : safeL (tookL S 0 7) 0 = false := by simpa using hq
      have Hc := Lib.hid (show (if true && !safeL (tookL S 0 7) 0 then 12 else 0) = 12 by rw [hq]; rfl)
      rw [hq]; clear hq
      go_wp2_with fail
      go_ret
      exact Hpost.out _ 12 Hc.out (((Fr.of_kp (Kp.trans hk1 (Kp.trans (Kp.new _ _) (Kp.of_drewN _ _)))).mono (by simp)).trans (Fr.set _ ⟨b, 13, none⟩ _)) (by rw [Htook.out]; exact (WalkAt.set (Kp.walk (Kp.of_drewN _ _) (HW.out _)) 13 (by omega)))

set_option maxRecDepth 100000 in
set_option maxHeartbeats 4000000 in
theorem takes_1_1 (w : World) (E : Nat → Addr) (hE : Errs w E) (b : Nat) (S : Nat → Bool) (h : WalkAt w b S) (last : Bool) : Calls Tryz.prog 58 #[.pointer (some ⟨b, 0, none⟩), iv 1, iv 1, .bool last] w (TakesPost w E b S 1 1 last) := by
  have Hw := Lib.hid (show ∀ w, Calls Tryz.prog 98 #[iv 1] w fun e w' => Kp w w' ∧ e = .returned (.tuple #[.agg #[iv 0, iv 0, iv 0], .bool false]) from fun w => wants_any w 1 (by omega) (by omega))
  have H := Lib.hid h; clear h
  have HE := Lib.hid hE; clear hE
  by_cases h1 : S 4 = true
  · skip
    have hoff : offL S 1 1 last = 10 := by simp [offL, keyT, isSec, h1]
    have hpost : ∀ w', Kp w w' → TakesPost w E b S 1 1 last (.returned (.iface 229 (.pointer (some (E 10))))) w' := fun w' hk => ⟨by rw [hoff]; rfl, (Fr.of_kp hk).mono (by simp), by rw [hoff]; simp⟩
    have Hpost := Lib.hid hpost; clear hpost hoff
    go_enter Tryz.func58, Tryz.ntmps58
    go_wp2_with fail
    (with_reducible refine (Hw.out w).mono ?_)
    rintro e w1 ⟨hk1, rfl⟩
    have hW : ∀ o, WalkAt (w1.alloc o) b S := fun o => Kp.walk (Kp.trans hk1 (Kp.new w1 o)) H.out
    have hE : ∀ o, Errs (w1.alloc o) E := fun o => Kp.errs (Kp.trans hk1 (Kp.new w1 o)) HE.out
    have c4 := fun o => (hW o 4 (by omega)).1
    have c7 := fun o => (hW o 7 (by omega)).1
    have z4 := fun o => (hW o 4 (by omega)).2
    have z7 := fun o => (hW o 7 (by omega)).2
    have e10 := fun o => (hE o).2.1
    have e11 := fun o => (hE o).2.2.1
    have e12 := fun o => (hE o).2.2.2
    have HW := Lib.hid hW; clear hW hE
    simp only [h1] at c4
    clear h1
    go_wp2_with fail
    go_ret
    exact Hpost.out _ (Kp.trans hk1 (Kp.new _ _))
  · have h1 : S 4 = false := by simpa using h1
    have hoff : offL S 1 1 last = if last && !safeL (tookL S 1 1) 1 then 12 else 0 := by simp [offL, keyT, isSec, wantI, wantR, h1]
    have hpost : ∀ w' c, (if last && !safeL (tookL S 1 1) 1 then 12 else 0) = c → Fr [b] w w' → WalkAt w' b (tookL S 1 1) → TakesPost w E b S 1 1 last (.returned (errV E c)) w' := fun w' c hc hk hw => ⟨by rw [hoff, hc], hk, fun _ => hw⟩
    have Hpost := Lib.hid hpost; clear hpost hoff
    have htook : tookL S 1 1 = upd (upd S 4 true) 7 true := rfl
    have Htook := Lib.hid htook; clear htook
    cases last with
    | false =>
      go_enter Tryz.func58, Tryz.ntmps58
      go_wp2_with fail
      (with_reducible refine (Hw.out w).mono ?_)
      rintro e w1 ⟨hk1, rfl⟩
      have hW : ∀ o, WalkAt (w1.alloc o) b S := fun o => Kp.walk (Kp.trans hk1 (Kp.new w1 o)) H.out
      have hE : ∀ o, Errs (w1.alloc o) E := fun o => Kp.errs (Kp.trans hk1 (Kp.new w1 o)) HE.out
      have c4 := fun o => (hW o 4 (by omega)).1
      have c7 := fun o => (hW o 7 (by omega)).1
      have z4 := fun o => (hW o 4 (by omega)).2
      have z7 := fun o => (hW o 7 (by omega)).2
      have e10 := fun o => (hE o).2.1
      have e11 := fun o => (hE o).2.2.1
      have e12 := fun o => (hE o).2.2.2
      have HW := Lib.hid hW; clear hW hE
      simp only [h1] at c4
      clear h1
      go_wp2_with fail
      go_quiet (fail)
      go_wp2_with fail
      go_ret
      exact Hpost.out _ 0 rfl ((((Fr.of_kp (Kp.trans hk1 (Kp.trans (Kp.new _ _) (Kp.of_drewN _ _)))).mono (by simp)).trans (Fr.set _ ⟨b, 4, none⟩ _)).trans (Fr.set _ ⟨b, 7, none⟩ _)) (by rw [Htook.out]; exact (WalkAt.set (WalkAt.set (Kp.walk (Kp.of_drewN _ _) (HW.out _)) 4 (by omega)) 7 (by omega)))
    | true =>
      go_enter Tryz.func58, Tryz.ntmps58
      go_wp2_with fail
      (with_reducible refine (Hw.out w).mono ?_)
      rintro e w1 ⟨hk1, rfl⟩
      have hW : ∀ o, WalkAt (w1.alloc o) b S := fun o => Kp.walk (Kp.trans hk1 (Kp.new w1 o)) H.out
      have hE : ∀ o, Errs (w1.alloc o) E := fun o => Kp.errs (Kp.trans hk1 (Kp.new w1 o)) HE.out
      have c4 := fun o => (hW o 4 (by omega)).1
      have c7 := fun o => (hW o 7 (by omega)).1
      have z4 := fun o => (hW o 4 (by omega)).2
      have z7 := fun o => (hW o 7 (by omega)).2
      have e10 := fun o => (hE o).2.1
      have e11 := fun o => (hE o).2.2.1
      have e12 := fun o => (hE o).2.2.2
      have HW := Lib.hid hW; clear hW hE
      simp only [h1] at c4
      clear h1
      go_wp2_with fail
      go_quiet (fail)
      go_wp2_with fail
      (with_reducible refine (safe_any _ b (tookL S 1 1) 1 (by omega) (by rw [Htook.out]; exact (WalkAt.set (WalkAt.set (Kp.walk (Kp.of_drewN _ _) (HW.out _)) 4 (by omega)) 7 (by omega)))).mono ?_)
      rintro e w3 ⟨rfl, rfl⟩
      by_cases hq : safeL (tookL S 1 1) 1 = true
      · skip
        have Hc := Lib.hid (show (if true && !safeL (tookL S 1 1) 1 then 12 else 0) = 0 by rw [hq]; rfl)
        rw [hq]; clear hq
        go_wp2_with fail
        go_ret
        exact Hpost.out _ 0 Hc.out ((((Fr.of_kp (Kp.trans hk1 (Kp.trans (Kp.new _ _) (Kp.of_drewN _ _)))).mono (by simp)).trans (Fr.set _ ⟨b, 4, none⟩ _)).trans (Fr.set _ ⟨b, 7, none⟩ _)) (by rw [Htook.out]; exact (WalkAt.set (WalkAt.set (Kp.walk (Kp.of_drewN _ _) (HW.out _)) 4 (by omega)) 7 (by omega)))
      · have hq : safeL (tookL S 1 1) 1 = false := by simpa using hq
        have Hc := Lib.hid (show (if true && !safeL (tookL S 1 1) 1 then 12 else 0) = 12 by rw [hq]; rfl)
        rw [hq]; clear hq
        go_wp2_with fail
        go_ret
        exact Hpost.out _ 12 Hc.out ((((Fr.of_kp (Kp.trans hk1 (Kp.trans (Kp.new _ _) (Kp.of_drewN _ _)))).mono (by simp)).trans (Fr.set _ ⟨b, 4, none⟩ _)).trans (Fr.set _ ⟨b, 7, none⟩ _)) (by rw [Htook.out]; exact (WalkAt.set (WalkAt.set (Kp.walk (Kp.of_drewN _ _) (HW.out _)) 4 (by omega)) 7 (by omega)))

set_option maxRecDepth 100000 in
set_option maxHeartbeats 4000000 in
theorem takes_1_2 (w : World) (E : Nat → Addr) (hE : Errs w E) (b : Nat) (S : Nat → Bool) (h : WalkAt w b S) (last : Bool) : Calls Tryz.prog 58 #[.pointer (some ⟨b, 0, none⟩), iv 1, iv 2, .bool last] w (TakesPost w E b S 1 2 last) := by
  have Hw := Lib.hid (show ∀ w, Calls Tryz.prog 98 #[iv 2] w fun e w' => Kp w w' ∧ e = .returned (.tuple #[.agg #[iv 0, iv 0, iv 0], .bool false]) from fun w => wants_any w 2 (by omega) (by omega))
  have H := Lib.hid h; clear h
  have HE := Lib.hid hE; clear hE
  by_cases h1 : S 5 = true
  · skip
    have hoff : offL S 1 2 last = 10 := by simp [offL, keyT, isSec, h1]
    have hpost : ∀ w', Kp w w' → TakesPost w E b S 1 2 last (.returned (.iface 229 (.pointer (some (E 10))))) w' := fun w' hk => ⟨by rw [hoff]; rfl, (Fr.of_kp hk).mono (by simp), by rw [hoff]; simp⟩
    have Hpost := Lib.hid hpost; clear hpost hoff
    go_enter Tryz.func58, Tryz.ntmps58
    go_wp2_with fail
    (with_reducible refine (Hw.out w).mono ?_)
    rintro e w1 ⟨hk1, rfl⟩
    have hW : ∀ o, WalkAt (w1.alloc o) b S := fun o => Kp.walk (Kp.trans hk1 (Kp.new w1 o)) H.out
    have hE : ∀ o, Errs (w1.alloc o) E := fun o => Kp.errs (Kp.trans hk1 (Kp.new w1 o)) HE.out
    have c5 := fun o => (hW o 5 (by omega)).1
    have c8 := fun o => (hW o 8 (by omega)).1
    have z5 := fun o => (hW o 5 (by omega)).2
    have z8 := fun o => (hW o 8 (by omega)).2
    have e10 := fun o => (hE o).2.1
    have e11 := fun o => (hE o).2.2.1
    have e12 := fun o => (hE o).2.2.2
    have HW := Lib.hid hW; clear hW hE
    simp only [h1] at c5
    clear h1
    go_wp2_with fail
    go_ret
    exact Hpost.out _ (Kp.trans hk1 (Kp.new _ _))
  · have h1 : S 5 = false := by simpa using h1
    by_cases hs : safeL S 1 = true
    · skip
      have hoff : offL S 1 2 last = if last && !safeL (tookL S 1 2) 1 then 12 else 0 := by simp [offL, keyT, isSec, wantI, wantR, h1, hs]
      have hpost : ∀ w' c, (if last && !safeL (tookL S 1 2) 1 then 12 else 0) = c → Fr [b] w w' → WalkAt w' b (tookL S 1 2) → TakesPost w E b S 1 2 last (.returned (errV E c)) w' := fun w' c hc hk hw => ⟨by rw [hoff, hc], hk, fun _ => hw⟩
      have Hpost := Lib.hid hpost; clear hpost hoff
      have htook : tookL S 1 2 = upd (upd S 5 true) 8 true := rfl
      have Htook := Lib.hid htook; clear htook
      cases last with
      | false =>
        go_enter Tryz.func58, Tryz.ntmps58
        go_wp2_with fail
        (with_reducible refine (Hw.out w).mono ?_)
        rintro e w1 ⟨hk1, rfl⟩
        have hW : ∀ o, WalkAt (w1.alloc o) b S := fun o => Kp.walk (Kp.trans hk1 (Kp.new w1 o)) H.out
        have hE : ∀ o, Errs (w1.alloc o) E := fun o => Kp.errs (Kp.trans hk1 (Kp.new w1 o)) HE.out
        have c5 := fun o => (hW o 5 (by omega)).1
        have c8 := fun o => (hW o 8 (by omega)).1
        have z5 := fun o => (hW o 5 (by omega)).2
        have z8 := fun o => (hW o 8 (by omega)).2
        have e10 := fun o => (hE o).2.1
        have e11 := fun o => (hE o).2.2.1
        have e12 := fun o => (hE o).2.2.2
        have HW := Lib.hid hW; clear hW hE
        simp only [h1] at c5
        clear h1
        go_wp2_with fail
        go_quiet (fail)
        go_wp2_with fail
        (with_reducible refine (safe_any _ b S 1 (by omega) (Kp.walk (Kp.of_drewN _ _) (HW.out _))).mono ?_)
        rintro e w2 ⟨rfl, rfl⟩
        rw [hs]; clear hs
        go_wp2_with fail
        go_ret
        exact Hpost.out _ 0 rfl ((((Fr.of_kp (Kp.trans hk1 (Kp.trans (Kp.new _ _) (Kp.of_drewN _ _)))).mono (by simp)).trans (Fr.set _ ⟨b, 5, none⟩ _)).trans (Fr.set _ ⟨b, 8, none⟩ _)) (by rw [Htook.out]; exact (WalkAt.set (WalkAt.set (Kp.walk (Kp.of_drewN _ _) (HW.out _)) 5 (by omega)) 8 (by omega)))
      | true =>
        go_enter Tryz.func58, Tryz.ntmps58
        go_wp2_with fail
        (with_reducible refine (Hw.out w).mono ?_)
        rintro e w1 ⟨hk1, rfl⟩
        have hW : ∀ o, WalkAt (w1.alloc o) b S := fun o => Kp.walk (Kp.trans hk1 (Kp.new w1 o)) H.out
        have hE : ∀ o, Errs (w1.alloc o) E := fun o => Kp.errs (Kp.trans hk1 (Kp.new w1 o)) HE.out
        have c5 := fun o => (hW o 5 (by omega)).1
        have c8 := fun o => (hW o 8 (by omega)).1
        have z5 := fun o => (hW o 5 (by omega)).2
        have z8 := fun o => (hW o 8 (by omega)).2
        have e10 := fun o => (hE o).2.1
        have e11 := fun o => (hE o).2.2.1
        have e12 := fun o => (hE o).2.2.2
        have HW := Lib.hid hW; clear hW hE
        simp only [h1] at c5
        clear h1
        go_wp2_with fail
        go_quiet (fail)
        go_wp2_with fail
        (with_reducible refine (safe_any _ b S 1 (by omega) (Kp.walk (Kp.of_drewN _ _) (HW.out _))).mono ?_)
        rintro e w2 ⟨rfl, rfl⟩
        rw [hs]; clear hs
        go_wp2_with fail
        (with_reducible refine (safe_any _ b (tookL S 1 2) 1 (by omega) (by rw [Htook.out]; exact (WalkAt.set (WalkAt.set (Kp.walk (Kp.of_drewN _ _) (HW.out _)) 5 (by omega)) 8 (by omega)))).mono ?_)
        rintro e w3 ⟨rfl, rfl⟩
        by_cases hq : safeL (tookL S 1 2) 1 = true
        · skip
          have Hc := Lib.hid (show (if true && !safeL (tookL S 1 2) 1 then 12 else 0) = 0 by rw [hq]; rfl)
          rw [hq]; clear hq
          go_wp2_with fail
          go_ret
          exact Hpost.out _ 0 Hc.out ((((Fr.of_kp (Kp.trans hk1 (Kp.trans (Kp.new _ _) (Kp.of_drewN _ _)))).mono (by simp)).trans (Fr.set _ ⟨b, 5, none⟩ _)).trans (Fr.set _ ⟨b, 8, none⟩ _)) (by rw [Htook.out]; exact (WalkAt.set (WalkAt.set (Kp.walk (Kp.of_drewN _ _) (HW.out _)) 5 (by omega)) 8 (by omega)))
        · have hq : safeL (tookL S 1 2) 1 = false := by simpa using hq
          have Hc := Lib.hid (show (if true && !safeL (tookL S 1 2) 1 then 12 else 0) = 12 by rw [hq]; rfl)
          rw [hq]; clear hq
          go_wp2_with fail
          go_ret
          exact Hpost.out _ 12 Hc.out ((((Fr.of_kp (Kp.trans hk1 (Kp.trans (Kp.new _ _) (Kp.of_drewN _ _)))).mono (by simp)).trans (Fr.set _ ⟨b, 5, none⟩ _)).trans (Fr.set _ ⟨b, 8, none⟩ _)) (by rw [Htook.out]; exact (WalkAt.set (WalkAt.set (Kp.walk (Kp.of_drewN _ _) (HW.out _)) 5 (by omega)) 8 (by omega)))
    · have hs : safeL S 1 = false := by simpa using hs
      have hoff : offL S 1 2 last = 12 := by simp [offL, keyT, isSec, wantI, wantR, h1, hs]
      have hpost : ∀ w', Kp w w' → TakesPost w E b S 1 2 last (.returned (.iface 229 (.pointer (some (E 12))))) w' := fun w' hk => ⟨by rw [hoff]; rfl, (Fr.of_kp hk).mono (by simp), by rw [hoff]; simp⟩
      have Hpost := Lib.hid hpost; clear hpost hoff
      go_enter Tryz.func58, Tryz.ntmps58
      go_wp2_with fail
      (with_reducible refine (Hw.out w).mono ?_)
      rintro e w1 ⟨hk1, rfl⟩
      have hW : ∀ o, WalkAt (w1.alloc o) b S := fun o => Kp.walk (Kp.trans hk1 (Kp.new w1 o)) H.out
      have hE : ∀ o, Errs (w1.alloc o) E := fun o => Kp.errs (Kp.trans hk1 (Kp.new w1 o)) HE.out
      have c5 := fun o => (hW o 5 (by omega)).1
      have c8 := fun o => (hW o 8 (by omega)).1
      have z5 := fun o => (hW o 5 (by omega)).2
      have z8 := fun o => (hW o 8 (by omega)).2
      have e10 := fun o => (hE o).2.1
      have e11 := fun o => (hE o).2.2.1
      have e12 := fun o => (hE o).2.2.2
      have HW := Lib.hid hW; clear hW hE
      simp only [h1] at c5
      clear h1
      go_wp2_with fail
      go_quiet (fail)
      go_wp2_with fail
      (with_reducible refine (safe_any _ b S 1 (by omega) (Kp.walk (Kp.of_drewN _ _) (HW.out _))).mono ?_)
      rintro e w2 ⟨rfl, rfl⟩
      rw [hs]; clear hs
      go_wp2_with fail
      go_ret
      exact Hpost.out _ (Kp.trans hk1 (Kp.trans (Kp.new _ _) (Kp.of_drewN _ _)))

set_option maxRecDepth 100000 in
set_option maxHeartbeats 4000000 in
theorem takes_1_3 (w : World) (E : Nat → Addr) (hE : Errs w E) (b : Nat) (S : Nat → Bool) (h : WalkAt w b S) (last : Bool) : Calls Tryz.prog 58 #[.pointer (some ⟨b, 0, none⟩), iv 1, iv 3, .bool last] w (TakesPost w E b S 1 3 last) := by
  have Hw := Lib.hid (show ∀ w, Calls Tryz.prog 98 #[iv 3] w fun e w' => Kp w w' ∧ e = .returned (.tuple #[.agg #[iv 3, iv 1, iv 1], .bool true]) from fun w => wants_any w 3 (by omega) (by omega))
  have H := Lib.hid h; clear h
  have HE := Lib.hid hE; clear hE
  by_cases h1 : S 9 = true
  · skip
    have hoff : offL S 1 3 last = 10 := by simp [offL, keyT, isSec, h1]
    have hpost : ∀ w', Kp w w' → TakesPost w E b S 1 3 last (.returned (.iface 229 (.pointer (some (E 10))))) w' := fun w' hk => ⟨by rw [hoff]; rfl, (Fr.of_kp hk).mono (by simp), by rw [hoff]; simp⟩
    have Hpost := Lib.hid hpost; clear hpost hoff
    go_enter Tryz.func58, Tryz.ntmps58
    go_wp2_with fail
    (with_reducible refine (Hw.out w).mono ?_)
    rintro e w1 ⟨hk1, rfl⟩
    have hW : ∀ o, WalkAt (w1.alloc o) b S := fun o => Kp.walk (Kp.trans hk1 (Kp.new w1 o)) H.out
    have hE : ∀ o, Errs (w1.alloc o) E := fun o => Kp.errs (Kp.trans hk1 (Kp.new w1 o)) HE.out
    have c1 := fun o => (hW o 1 (by omega)).1
    have c4 := fun o => (hW o 4 (by omega)).1
    have c9 := fun o => (hW o 9 (by omega)).1
    have z9 := fun o => (hW o 9 (by omega)).2
    have e10 := fun o => (hE o).2.1
    have e11 := fun o => (hE o).2.2.1
    have e12 := fun o => (hE o).2.2.2
    have HW := Lib.hid hW; clear hW hE
    simp only [h1] at c9
    clear h1
    go_wp2_with fail
    go_ret
    exact Hpost.out _ (Kp.trans hk1 (Kp.new _ _))
  · have h1 : S 9 = false := by simpa using h1
    by_cases h2 : S 1 = true
    · skip
      by_cases h3 : S 4 = true
      · skip
        have hoff : offL S 1 3 last = if last && !safeL (tookL S 1 3) 1 then 12 else 0 := by simp [offL, keyT, isSec, wantI, wantR, h1, h2, h3]
        have hpost : ∀ w' c, (if last && !safeL (tookL S 1 3) 1 then 12 else 0) = c → Fr [b] w w' → WalkAt w' b (tookL S 1 3) → TakesPost w E b S 1 3 last (.returned (errV E c)) w' := fun w' c hc hk hw => ⟨by rw [hoff, hc], hk, fun _ => hw⟩
        have Hpost := Lib.hid hpost; clear hpost hoff
        have htook : tookL S 1 3 = upd S 9 true := rfl
        have Htook := Lib.hid htook; clear htook
        cases last with
        | false =>
          go_enter Tryz.func58, Tryz.ntmps58
          go_wp2_with fail
          (with_reducible refine (Hw.out w).mono ?_)
          rintro e w1 ⟨hk1, rfl⟩
          have hW : ∀ o, WalkAt (w1.alloc o) b S := fun o => Kp.walk (Kp.trans hk1 (Kp.new w1 o)) H.out
          have hE : ∀ o, Errs (w1.alloc o) E := fun o => Kp.errs (Kp.trans hk1 (Kp.new w1 o)) HE.out
          have c1 := fun o => (hW o 1 (by omega)).1
          have c4 := fun o => (hW o 4 (by omega)).1
          have c9 := fun o => (hW o 9 (by omega)).1
          have z9 := fun o => (hW o 9 (by omega)).2
          have e10 := fun o => (hE o).2.1
          have e11 := fun o => (hE o).2.2.1
          have e12 := fun o => (hE o).2.2.2
          have HW := Lib.hid hW; clear hW hE
          simp only [h1] at c9
          simp only [h2] at c1
          simp only [h3] at c4
          clear h1 h2 h3
          go_wp2_with fail
          go_quiet (fail)
          go_wp2_with fail
          go_ret
          exact Hpost.out _ 0 rfl (((Fr.of_kp (Kp.trans hk1 (Kp.trans (Kp.new _ _) (Kp.of_drewN _ _)))).mono (by simp)).trans (Fr.set _ ⟨b, 9, none⟩ _)) (by rw [Htook.out]; exact (WalkAt.set (Kp.walk (Kp.of_drewN _ _) (HW.out _)) 9 (by omega)))
        | true =>
          go_enter Tryz.func58, Tryz.ntmps58
          go_wp2_with fail
          (with_reducible refine (Hw.out w).mono ?_)
          rintro e w1 ⟨hk1, rfl⟩
          have hW : ∀ o, WalkAt (w1.alloc o) b S := fun o => Kp.walk (Kp.trans hk1 (Kp.new w1 o)) H.out
          have hE : ∀ o, Errs (w1.alloc o) E := fun o => Kp.errs (Kp.trans hk1 (Kp.new w1 o)) HE.out
          have c1 := fun o => (hW o 1 (by omega)).1
          have c4 := fun o => (hW o 4 (by omega)).1
          have c9 := fun o => (hW o 9 (by omega)).1
          have z9 := fun o => (hW o 9 (by omega)).2
          have e10 := fun o => (hE o).2.1
          have e11 := fun o => (hE o).2.2.1
          have e12 := fun o => (hE o).2.2.2
          have HW := Lib.hid hW; clear hW hE
          simp only [h1] at c9
          simp only [h2] at c1
          simp only [h3] at c4
          clear h1 h2 h3
          go_wp2_with fail
          go_quiet (fail)
          go_wp2_with fail
          (with_reducible refine (safe_any _ b (tookL S 1 3) 1 (by omega) (by rw [Htook.out]; exact (WalkAt.set (Kp.walk (Kp.of_drewN _ _) (HW.out _)) 9 (by omega)))).mono ?_)
          rintro e w3 ⟨rfl, rfl⟩
          by_cases hq : safeL (tookL S 1 3) 1 = true
          · skip
            have Hc := Lib.hid (show (if true && !safeL (tookL S 1 3) 1 then 12 else 0) = 0 by rw [hq]; rfl)
            rw [hq]; clear hq
            go_wp2_with fail
            go_ret
            exact Hpost.out _ 0 Hc.out (((Fr.of_kp (Kp.trans hk1 (Kp.trans (Kp.new _ _) (Kp.of_drewN _ _)))).mono (by simp)).trans (Fr.set _ ⟨b, 9, none⟩ _)) (by rw [Htook.out]; exact (WalkAt.set (Kp.walk (Kp.of_drewN _ _) (HW.out _)) 9 (by omega)))
          · have hq : safeL (tookL S 1 3) 1 = false := by simpa using hq
            have Hc := Lib.hid (show (if true && !safeL (tookL S 1 3) 1 then 12 else 0) = 12 by rw [hq]; rfl)
            rw [hq]; clear hq
            go_wp2_with fail
            go_ret
            exact Hpost.out _ 12 Hc.out (((Fr.of_kp (Kp.trans hk1 (Kp.trans (Kp.new _ _) (Kp.of_drewN _ _)))).mono (by simp)).trans (Fr.set _ ⟨b, 9, none⟩ _)) (by rw [Htook.out]; exact (WalkAt.set (Kp.walk (Kp.of_drewN _ _) (HW.out _)) 9 (by omega)))
      · have h3 : S 4 = false := by simpa using h3
        have hoff : offL S 1 3 last = 11 := by simp [offL, keyT, isSec, wantI, wantR, h1, h2, h3]
        have hpost : ∀ w', Kp w w' → TakesPost w E b S 1 3 last (.returned (.iface 229 (.pointer (some (E 11))))) w' := fun w' hk => ⟨by rw [hoff]; rfl, (Fr.of_kp hk).mono (by simp), by rw [hoff]; simp⟩
        have Hpost := Lib.hid hpost; clear hpost hoff
        go_enter Tryz.func58, Tryz.ntmps58
        go_wp2_with fail
        (with_reducible refine (Hw.out w).mono ?_)
        rintro e w1 ⟨hk1, rfl⟩
        have hW : ∀ o, WalkAt (w1.alloc o) b S := fun o => Kp.walk (Kp.trans hk1 (Kp.new w1 o)) H.out
        have hE : ∀ o, Errs (w1.alloc o) E := fun o => Kp.errs (Kp.trans hk1 (Kp.new w1 o)) HE.out
        have c1 := fun o => (hW o 1 (by omega)).1
        have c4 := fun o => (hW o 4 (by omega)).1
        have c9 := fun o => (hW o 9 (by omega)).1
        have z9 := fun o => (hW o 9 (by omega)).2
        have e10 := fun o => (hE o).2.1
        have e11 := fun o => (hE o).2.2.1
        have e12 := fun o => (hE o).2.2.2
        have HW := Lib.hid hW; clear hW hE
        simp only [h1] at c9
        simp only [h2] at c1
        simp only [h3] at c4
        clear h1 h2 h3
        go_wp2_with fail
        go_quiet (fail)
        go_wp2_with fail
        go_ret
        exact Hpost.out _ (Kp.trans hk1 (Kp.trans (Kp.new _ _) (Kp.of_drewN _ _)))
    · have h2 : S 1 = false := by simpa using h2
      have hoff : offL S 1 3 last = 11 := by simp [offL, keyT, isSec, wantI, wantR, h1, h2]
      have hpost : ∀ w', Kp w w' → TakesPost w E b S 1 3 last (.returned (.iface 229 (.pointer (some (E 11))))) w' := fun w' hk => ⟨by rw [hoff]; rfl, (Fr.of_kp hk).mono (by simp), by rw [hoff]; simp⟩
      have Hpost := Lib.hid hpost; clear hpost hoff
      go_enter Tryz.func58, Tryz.ntmps58
      go_wp2_with fail
      (with_reducible refine (Hw.out w).mono ?_)
      rintro e w1 ⟨hk1, rfl⟩
      have hW : ∀ o, WalkAt (w1.alloc o) b S := fun o => Kp.walk (Kp.trans hk1 (Kp.new w1 o)) H.out
      have hE : ∀ o, Errs (w1.alloc o) E := fun o => Kp.errs (Kp.trans hk1 (Kp.new w1 o)) HE.out
      have c1 := fun o => (hW o 1 (by omega)).1
      have c4 := fun o => (hW o 4 (by omega)).1
      have c9 := fun o => (hW o 9 (by omega)).1
      have z9 := fun o => (hW o 9 (by omega)).2
      have e10 := fun o => (hE o).2.1
      have e11 := fun o => (hE o).2.2.1
      have e12 := fun o => (hE o).2.2.2
      have HW := Lib.hid hW; clear hW hE
      simp only [h1] at c9
      simp only [h2] at c1
      clear h1 h2
      go_wp2_with fail
      go_quiet (fail)
      go_wp2_with fail
      go_ret
      exact Hpost.out _ (Kp.trans hk1 (Kp.trans (Kp.new _ _) (Kp.of_drewN _ _)))

set_option maxRecDepth 100000 in
set_option maxHeartbeats 4000000 in
theorem takes_1_4 (w : World) (E : Nat → Addr) (hE : Errs w E) (b : Nat) (S : Nat → Bool) (h : WalkAt w b S) (last : Bool) : Calls Tryz.prog 58 #[.pointer (some ⟨b, 0, none⟩), iv 1, iv 4, .bool last] w (TakesPost w E b S 1 4 last) := by
  have Hw := Lib.hid (show ∀ w, Calls Tryz.prog 98 #[iv 4] w fun e w' => Kp w w' ∧ e = .returned (.tuple #[.agg #[iv 4, iv 1, iv 2], .bool true]) from fun w => wants_any w 4 (by omega) (by omega))
  have H := Lib.hid h; clear h
  have HE := Lib.hid hE; clear hE
  by_cases h1 : S 10 = true
  · skip
    have hoff : offL S 1 4 last = 10 := by simp [offL, keyT, isSec, h1]
    have hpost : ∀ w', Kp w w' → TakesPost w E b S 1 4 last (.returned (.iface 229 (.pointer (some (E 10))))) w' := fun w' hk => ⟨by rw [hoff]; rfl, (Fr.of_kp hk).mono (by simp), by rw [hoff]; simp⟩
    have Hpost := Lib.hid hpost; clear hpost hoff
    go_enter Tryz.func58, Tryz.ntmps58
    go_wp2_with fail
    (with_reducible refine (Hw.out w).mono ?_)
    rintro e w1 ⟨hk1, rfl⟩
    have hW : ∀ o, WalkAt (w1.alloc o) b S := fun o => Kp.walk (Kp.trans hk1 (Kp.new w1 o)) H.out
    have hE : ∀ o, Errs (w1.alloc o) E := fun o => Kp.errs (Kp.trans hk1 (Kp.new w1 o)) HE.out
    have c1 := fun o => (hW o 1 (by omega)).1
    have c5 := fun o => (hW o 5 (by omega)).1
    have c10 := fun o => (hW o 10 (by omega)).1
    have z10 := fun o => (hW o 10 (by omega)).2
    have e10 := fun o => (hE o).2.1
    have e11 := fun o => (hE o).2.2.1
    have e12 := fun o => (hE o).2.2.2
    have HW := Lib.hid hW; clear hW hE
    simp only [h1] at c10
    clear h1
    go_wp2_with fail
    go_ret
    exact Hpost.out _ (Kp.trans hk1 (Kp.new _ _))
  · have h1 : S 10 = false := by simpa using h1
    by_cases h2 : S 1 = true
    · skip
      by_cases h3 : S 5 = true
      · skip
        have hoff : offL S 1 4 last = if last && !safeL (tookL S 1 4) 1 then 12 else 0 := by simp [offL, keyT, isSec, wantI, wantR, h1, h2, h3]
        have hpost : ∀ w' c, (if last && !safeL (tookL S 1 4) 1 then 12 else 0) = c → Fr [b] w w' → WalkAt w' b (tookL S 1 4) → TakesPost w E b S 1 4 last (.returned (errV E c)) w' := fun w' c hc hk hw => ⟨by rw [hoff, hc], hk, fun _ => hw⟩
        have Hpost := Lib.hid hpost; clear hpost hoff
        have htook : tookL S 1 4 = upd S 10 true := rfl
        have Htook := Lib.hid htook; clear htook
        cases last with
        | false =>
          go_enter Tryz.func58, Tryz.ntmps58
          go_wp2_with fail
          (with_reducible refine (Hw.out w).mono ?_)
          rintro e w1 ⟨hk1, rfl⟩
          have hW : ∀ o, WalkAt (w1.alloc o) b S := fun o => Kp.walk (Kp.trans hk1 (Kp.new w1 o)) H.out
          have hE : ∀ o, Errs (w1.alloc o) E := fun o => Kp.errs (Kp.trans hk1 (Kp.new w1 o)) HE.out
          have c1 := fun o => (hW o 1 (by omega)).1
          have c5 := fun o => (hW o 5 (by omega)).1
          have c10 := fun o => (hW o 10 (by omega)).1
          have z10 := fun o => (hW o 10 (by omega)).2
          have e10 := fun o => (hE o).2.1
          have e11 := fun o => (hE o).2.2.1
          have e12 := fun o => (hE o).2.2.2
          have HW := Lib.hid hW; clear hW hE
          simp only [h1] at c10
          simp only [h2] at c1
          simp only [h3] at c5
          clear h1 h2 h3
          go_wp2_with fail
          go_quiet (fail)
          go_wp2_with fail
          go_ret
          exact Hpost.out _ 0 rfl (((Fr.of_kp (Kp.trans hk1 (Kp.trans (Kp.new _ _) (Kp.of_drewN _ _)))).mono (by simp)).trans (Fr.set _ ⟨b, 10, none⟩ _)) (by rw [Htook.out]; exact (WalkAt.set (Kp.walk (Kp.of_drewN _ _) (HW.out _)) 10 (by omega)))
        | true =>
          go_enter Tryz.func58, Tryz.ntmps58
          go_wp2_with fail
          (with_reducible refine (Hw.out w).mono ?_)
          rintro e w1 ⟨hk1, rfl⟩
          have hW : ∀ o, WalkAt (w1.alloc o) b S := fun o => Kp.walk (Kp.trans hk1 (Kp.new w1 o)) H.out
          have hE : ∀ o, Errs (w1.alloc o) E := fun o => Kp.errs (Kp.trans hk1 (Kp.new w1 o)) HE.out
          have c1 := fun o => (hW o 1 (by omega)).1
          have c5 := fun o => (hW o 5 (by omega)).1
          have c10 := fun o => (hW o 10 (by omega)).1
          have z10 := fun o => (hW o 10 (by omega)).2
          have e10 := fun o => (hE o).2.1
          have e11 := fun o => (hE o).2.2.1
          have e12 := fun o => (hE o).2.2.2
          have HW := Lib.hid hW; clear hW hE
          simp only [h1] at c10
          simp only [h2] at c1
          simp only [h3] at c5
          clear h1 h2 h3
          go_wp2_with fail
          go_quiet (fail)
          go_wp2_with fail
          (with_reducible refine (safe_any _ b (tookL S 1 4) 1 (by omega) (by rw [Htook.out]; exact (WalkAt.set (Kp.walk (Kp.of_drewN _ _) (HW.out _)) 10 (by omega)))).mono ?_)
          rintro e w3 ⟨rfl, rfl⟩
          by_cases hq : safeL (tookL S 1 4) 1 = true
          · skip
            have Hc := Lib.hid (show (if true && !safeL (tookL S 1 4) 1 then 12 else 0) = 0 by rw [hq]; rfl)
            rw [hq]; clear hq
            go_wp2_with fail
            go_ret
            exact Hpost.out _ 0 Hc.out (((Fr.of_kp (Kp.trans hk1 (Kp.trans (Kp.new _ _) (Kp.of_drewN _ _)))).mono (by simp)).trans (Fr.set _ ⟨b, 10, none⟩ _)) (by rw [Htook.out]; exact (WalkAt.set (Kp.walk (Kp.of_drewN _ _) (HW.out _)) 10 (by omega)))
          · have hq : safeL (tookL S 1 4) 1 = false := by simpa using hq
            have Hc := Lib.hid (show (if true && !safeL (tookL S 1 4) 1 then 12 else 0) = 12 by rw [hq]; rfl)
            rw [hq]; clear hq
            go_wp2_with fail
            go_ret
            exact Hpost.out _ 12 Hc.out (((Fr.of_kp (Kp.trans hk1 (Kp.trans (Kp.new _ _) (Kp.of_drewN _ _)))).mono (by simp)).trans (Fr.set _ ⟨b, 10, none⟩ _)) (by rw [Htook.out]; exact (WalkAt.set (Kp.walk (Kp.of_drewN _ _) (HW.out _)) 10 (by omega)))
      · have h3 : S 5 = false := by simpa using h3
        have hoff : offL S 1 4 last = 11 := by simp [offL, keyT, isSec, wantI, wantR, h1, h2, h3]
        have hpost : ∀ w', Kp w w' → TakesPost w E b S 1 4 last (.returned (.iface 229 (.pointer (some (E 11))))) w' := fun w' hk => ⟨by rw [hoff]; rfl, (Fr.of_kp hk).mono (by simp), by rw [hoff]; simp⟩
        have Hpost := Lib.hid hpost; clear hpost hoff
        go_enter Tryz.func58, Tryz.ntmps58
        go_wp2_with fail
        (with_reducible refine (Hw.out w).mono ?_)
        rintro e w1 ⟨hk1, rfl⟩
        have hW : ∀ o, WalkAt (w1.alloc o) b S := fun o => Kp.walk (Kp.trans hk1 (Kp.new w1 o)) H.out
        have hE : ∀ o, Errs (w1.alloc o) E := fun o => Kp.errs (Kp.trans hk1 (Kp.new w1 o)) HE.out
        have c1 := fun o => (hW o 1 (by omega)).1
        have c5 := fun o => (hW o 5 (by omega)).1
        have c10 := fun o => (hW o 10 (by omega)).1
        have z10 := fun o => (hW o 10 (by omega)).2
        have e10 := fun o => (hE o).2.1
        have e11 := fun o => (hE o).2.2.1
        have e12 := fun o => (hE o).2.2.2
        have HW := Lib.hid hW; clear hW hE
        simp only [h1] at c10
        simp only [h2] at c1
        simp only [h3] at c5
        clear h1 h2 h3
        go_wp2_with fail
        go_quiet (fail)
        go_wp2_with fail
        go_ret
        exact Hpost.out _ (Kp.trans hk1 (Kp.trans (Kp.new _ _) (Kp.of_drewN _ _)))
    · have h2 : S 1 = false := by simpa using h2
      have hoff : offL S 1 4 last = 11 := by simp [offL, keyT, isSec, wantI, wantR, h1, h2]
      have hpost : ∀ w', Kp w w' → TakesPost w E b S 1 4 last (.returned (.iface 229 (.pointer (some (E 11))))) w' := fun w' hk => ⟨by rw [hoff]; rfl, (Fr.of_kp hk).mono (by simp), by rw [hoff]; simp⟩
      have Hpost := Lib.hid hpost; clear hpost hoff
      go_enter Tryz.func58, Tryz.ntmps58
      go_wp2_with fail
      (with_reducible refine (Hw.out w).mono ?_)
      rintro e w1 ⟨hk1, rfl⟩
      have hW : ∀ o, WalkAt (w1.alloc o) b S := fun o => Kp.walk (Kp.trans hk1 (Kp.new w1 o)) H.out
      have hE : ∀ o, Errs (w1.alloc o) E := fun o => Kp.errs (Kp.trans hk1 (Kp.new w1 o)) HE.out
      have c1 := fun o => (hW o 1 (by omega)).1
      have c5 := fun o => (hW o 5 (by omega)).1
      have c10 := fun o => (hW o 10 (by omega)).1
      have z10 := fun o => (hW o 10 (by omega)).2
      have e10 := fun o => (hE o).2.1
      have e11 := fun o => (hE o).2.2.1
      have e12 := fun o => (hE o).2.2.2
      have HW := Lib.hid hW; clear hW hE
      simp only [h1] at c10
      simp only [h2] at c1
      clear h1 h2
      go_wp2_with fail
      go_quiet (fail)
      go_wp2_with fail
      go_ret
      exact Hpost.out _ (Kp.trans hk1 (Kp.trans (Kp.new _ _) (Kp.of_drewN _ _)))

set_option maxRecDepth 100000 in
set_option maxHeartbeats 4000000 in
theorem takes_1_5 (w : World) (E : Nat → Addr) (hE : Errs w E) (b : Nat) (S : Nat → Bool) (h : WalkAt w b S) (last : Bool) : Calls Tryz.prog 58 #[.pointer (some ⟨b, 0, none⟩), iv 1, iv 5, .bool last] w (TakesPost w E b S 1 5 last) := by
  have Hw := Lib.hid (show ∀ w, Calls Tryz.prog 98 #[iv 5] w fun e w' => Kp w w' ∧ e = .returned (.tuple #[.agg #[iv 5, iv 2, iv 1], .bool true]) from fun w => wants_any w 5 (by omega) (by omega))
  have H := Lib.hid h; clear h
  have HE := Lib.hid hE; clear hE
  by_cases h1 : S 11 = true
  · skip
    have hoff : offL S 1 5 last = 10 := by simp [offL, keyT, isSec, h1]
    have hpost : ∀ w', Kp w w' → TakesPost w E b S 1 5 last (.returned (.iface 229 (.pointer (some (E 10))))) w' := fun w' hk => ⟨by rw [hoff]; rfl, (Fr.of_kp hk).mono (by simp), by rw [hoff]; simp⟩
    have Hpost := Lib.hid hpost; clear hpost hoff
    go_enter Tryz.func58, Tryz.ntmps58
    go_wp2_with fail
    (with_reducible refine (Hw.out w).mono ?_)
    rintro e w1 ⟨hk1, rfl⟩
    have hW : ∀ o, WalkAt (w1.alloc o) b S := fun o => Kp.walk (Kp.trans hk1 (Kp.new w1 o)) H.out
    have hE : ∀ o, Errs (w1.alloc o) E := fun o => Kp.errs (Kp.trans hk1 (Kp.new w1 o)) HE.out
    have c2 := fun o => (hW o 2 (by omega)).1
    have c4 := fun o => (hW o 4 (by omega)).1
    have c11 := fun o => (hW o 11 (by omega)).1
    have z11 := fun o => (hW o 11 (by omega)).2
    have e10 := fun o => (hE o).2.1
    have e11 := fun o => (hE o).2.2.1
    have e12 := fun o => (hE o).2.2.2
    have HW := Lib.hid hW; clear hW hE
    simp only [h1] at c11
    clear h1
    go_wp2_with fail
    go_ret
    exact Hpost.out _ (Kp.trans hk1 (Kp.new _ _))
  · have h1 : S 11 = false := by simpa using h1
    by_cases h2 : S 2 = true
    · skip
      by_cases h3 : S 4 = true
      · skip
        have hoff : offL S 1 5 last = if last && !safeL (tookL S 1 5) 1 then 12 else 0 := by simp [offL, keyT, isSec, wantI, wantR, h1, h2, h3]
        have hpost : ∀ w' c, (if last && !safeL (tookL S 1 5) 1 then 12 else 0) = c → Fr [b] w w' → WalkAt w' b (tookL S 1 5) → TakesPost w E b S 1 5 last (.returned (errV E c)) w' := fun w' c hc hk hw => ⟨by rw [hoff, hc], hk, fun _ => hw⟩
        have Hpost := Lib.hid hpost; clear hpost hoff
        have htook : tookL S 1 5 = upd S 11 true := rfl
        have Htook := Lib.hid htook; clear htook
        cases last with
        | false =>
          go_enter Tryz.func58, Tryz.ntmps58
          go_wp2_with fail
          (with_reducible refine (Hw.out w).mono ?_)
          rintro e w1 ⟨hk1, rfl⟩
          have hW : ∀ o, WalkAt (w1.alloc o) b S := fun o => Kp.walk (Kp.trans hk1 (Kp.new w1 o)) H.out
          have hE : ∀ o, Errs (w1.alloc o) E := fun o => Kp.errs (Kp.trans hk1 (Kp.new w1 o)) HE.out
          have c2 := fun o => (hW o 2 (by omega)).1
          have c4 := fun o => (hW o 4 (by omega)).1
          have c11 := fun o => (hW o 11 (by omega)).1
          have z11 := fun o => (hW o 11 (by omega)).2
          have e10 := fun o => (hE o).2.1
          have e11 := fun o => (hE o).2.2.1
          have e12 := fun o => (hE o).2.2.2
          have HW := Lib.hid hW; clear hW hE
          simp only [h1] at c11
          simp only [h2] at c2
          simp only [h3] at c4
          clear h1 h2 h3
          go_wp2_with fail
          go_quiet (fail)
          go_wp2_with fail
          go_ret
          exact Hpost.out _ 0 rfl (((Fr.of_kp (Kp.trans hk1 (Kp.trans (Kp.new _ _) (Kp.of_drewN _ _)))).mono (by simp)).trans (Fr.set _ ⟨b, 11, none⟩ _)) (by rw [Htook.out]; exact (WalkAt.set (Kp.walk (Kp.of_drewN _ _) (HW.out _)) 11 (by omega)))
        | true =>
          go_enter Tryz.func58, Tryz.ntmps58
          go_wp2_with fail
          (with_reducible refine (Hw.out w).mono ?_)
          rintro e w1 ⟨hk1, rfl⟩
          have hW : ∀ o, WalkAt (w1.alloc o) b S := fun o => Kp.walk (Kp.trans hk1 (Kp.new w1 o)) H.out
          have hE : ∀ o, Errs (w1.alloc o) E := fun o => Kp.errs (Kp.trans hk1 (Kp.new w1 o)) HE.out
          have c2 := fun o => (hW o 2 (by omega)).1
          have c4 := fun o => (hW o 4 (by omega)).1
          have c11 := fun o => (hW o 11 (by omega)).1
          have z11 := fun o => (hW o 11 (by omega)).2
          have e10 := fun o => (hE o).2.1
          have e11 := fun o => (hE o).2.2.1
          have e12 := fun o => (hE o).2.2.2
          have HW := Lib.hid hW; clear hW hE
          simp only [h1] at c11
          simp only [h2] at c2
          simp only [h3] at c4
          clear h1 h2 h3
          go_wp2_with fail
          go_quiet (fail)
          go_wp2_with fail
          (with_reducible refine (safe_any _ b (tookL S 1 5) 1 (by omega) (by rw [Htook.out]; exact (WalkAt.set (Kp.walk (Kp.of_drewN _ _) (HW.out _)) 11 (by omega)))).mono ?_)
          rintro e w3 ⟨rfl, rfl⟩
          by_cases hq : safeL (tookL S 1 5) 1 = true
          · skip
            have Hc := Lib.hid (show (if true && !safeL (tookL S 1 5) 1 then 12 else 0) = 0 by rw [hq]; rfl)
            rw [hq]; clear hq
            go_wp2_with fail
            go_ret
            exact Hpost.out _ 0 Hc.out (((Fr.of_kp (Kp.trans hk1 (Kp.trans (Kp.new _ _) (Kp.of_drewN _ _)))).mono (by simp)).trans (Fr.set _ ⟨b, 11, none⟩ _)) (by rw [Htook.out]; exact (WalkAt.set (Kp.walk (Kp.of_drewN _ _) (HW.out _)) 11 (by omega)))
          · have hq : safeL (tookL S 1 5) 1 = false := by simpa using hq
            have Hc := Lib.hid (show (if true && !safeL (tookL S 1 5) 1 then 12 else 0) = 12 by rw [hq]; rfl)
            rw [hq]; clear hq
            go_wp2_with fail
            go_ret
            exact Hpost.out _ 12 Hc.out (((Fr.of_kp (Kp.trans hk1 (Kp.trans (Kp.new _ _) (Kp.of_drewN _ _)))).mono (by simp)).trans (Fr.set _ ⟨b, 11, none⟩ _)) (by rw [Htook.out]; exact (WalkAt.set (Kp.walk (Kp.of_drewN _ _) (HW.out _)) 11 (by omega)))
      · have h3 : S 4 = false := by simpa using h3
        have hoff : offL S 1 5 last = 11 := by simp [offL, keyT, isSec, wantI, wantR, h1, h2, h3]
        have hpost : ∀ w', Kp w w' → TakesPost w E b S 1 5 last (.returned (.iface 229 (.pointer (some (E 11))))) w' := fun w' hk => ⟨by rw [hoff]; rfl, (Fr.of_kp hk).mono (by simp), by rw [hoff]; simp⟩
        have Hpost := Lib.hid hpost; clear hpost hoff
        go_enter Tryz.func58, Tryz.ntmps58
        go_wp2_with fail
        (with_reducible refine (Hw.out w).mono ?_)
        rintro e w1 ⟨hk1, rfl⟩
        have hW : ∀ o, WalkAt (w1.alloc o) b S := fun o => Kp.walk (Kp.trans hk1 (Kp.new w1 o)) H.out
        have hE : ∀ o, Errs (w1.alloc o) E := fun o => Kp.errs (Kp.trans hk1 (Kp.new w1 o)) HE.out
        have c2 := fun o => (hW o 2 (by omega)).1
        have c4 := fun o => (hW o 4 (by omega)).1
        have c11 := fun o => (hW o 11 (by omega)).1
        have z11 := fun o => (hW o 11 (by omega)).2
        have e10 := fun o => (hE o).2.1
        have e11 := fun o => (hE o).2.2.1
        have e12 := fun o => (hE o).2.2.2
        have HW := Lib.hid hW; clear hW hE
        simp only [h1] at c11
        simp only [h2] at c2
        simp only [h3] at c4
        clear h1 h2 h3
        go_wp2_with fail
        go_quiet (fail)
        go_wp2_with fail
        go_ret
        exact Hpost.out _ (Kp.trans hk1 (Kp.trans (Kp.new _ _) (Kp.of_drewN _ _)))
    · have h2 : S 2 = false := by simpa using h2
      have hoff : offL S 1 5 last = 11 := by simp [offL, keyT, isSec, wantI, wantR, h1, h2]
      have hpost : ∀ w', Kp w w' → TakesPost w E b S 1 5 last (.returned (.iface 229 (.pointer (some (E 11))))) w' := fun w' hk => ⟨by rw [hoff]; rfl, (Fr.of_kp hk).mono (by simp), by rw [hoff]; simp⟩
      have Hpost := Lib.hid hpost; clear hpost hoff
      go_enter Tryz.func58, Tryz.ntmps58
      go_wp2_with fail
      (with_reducible refine (Hw.out w).mono ?_)
      rintro e w1 ⟨hk1, rfl⟩
      have hW : ∀ o, WalkAt (w1.alloc o) b S := fun o => Kp.walk (Kp.trans hk1 (Kp.new w1 o)) H.out
      have hE : ∀ o, Errs (w1.alloc o) E := fun o => Kp.errs (Kp.trans hk1 (Kp.new w1 o)) HE.out
      have c2 := fun o => (hW o 2 (by omega)).1
      have c4 := fun o => (hW o 4 (by omega)).1
      have c11 := fun o => (hW o 11 (by omega)).1
      have z11 := fun o => (hW o 11 (by omega)).2
      have e10 := fun o => (hE o).2.1
      have e11 := fun o => (hE o).2.2.1
      have e12 := fun o => (hE o).2.2.2
      have HW := Lib.hid hW; clear hW hE
      simp only [h1] at c11
      simp only [h2] at c2
      clear h1 h2
      go_wp2_with fail
      go_quiet (fail)
      go_wp2_with fail
      go_ret
      exact Hpost.out _ (Kp.trans hk1 (Kp.trans (Kp.new _ _) (Kp.of_drewN _ _)))

set_option maxRecDepth 100000 in
set_option maxHeartbeats 4000000 in
theorem takes_1_6 (w : World) (E : Nat → Addr) (hE : Errs w E) (b : Nat) (S : Nat → Bool) (h : WalkAt w b S) (last : Bool) : Calls Tryz.prog 58 #[.pointer (some ⟨b, 0, none⟩), iv 1, iv 6, .bool last] w (TakesPost w E b S 1 6 last) := by
  have Hw := Lib.hid (show ∀ w, Calls Tryz.prog 98 #[iv 6] w fun e w' => Kp w w' ∧ e = .returned (.tuple #[.agg #[iv 6, iv 2, iv 2], .bool true]) from fun w => wants_any w 6 (by omega) (by omega))
  have H := Lib.hid h; clear h
  have HE := Lib.hid hE; clear hE
  by_cases h1 : S 12 = true
  · skip
    have hoff : offL S 1 6 last = 10 := by simp [offL, keyT, isSec, h1]
    have hpost : ∀ w', Kp w w' → TakesPost w E b S 1 6 last (.returned (.iface 229 (.pointer (some (E 10))))) w' := fun w' hk => ⟨by rw [hoff]; rfl, (Fr.of_kp hk).mono (by simp), by rw [hoff]; simp⟩
    have Hpost := Lib.hid hpost; clear hpost hoff
    go_enter Tryz.func58, Tryz.ntmps58
    go_wp2_with fail
    (with_reducible refine (Hw.out w).mono ?_)
    rintro e w1 ⟨hk1, rfl⟩
    have hW : ∀ o, WalkAt (w1.alloc o) b S := fun o => Kp.walk (Kp.trans hk1 (Kp.new w1 o)) H.out
    have hE : ∀ o, Errs (w1.alloc o) E := fun o => Kp.errs (Kp.trans hk1 (Kp.new w1 o)) HE.out
    have c2 := fun o => (hW o 2 (by omega)).1
    have c5 := fun o => (hW o 5 (by omega)).1
    have c12 := fun o => (hW o 12 (by omega)).1
    have z12 := fun o => (hW o 12 (by omega)).2
    have e10 := fun o => (hE o).2.1
    have e11 := fun o => (hE o).2.2.1
    have e12 := fun o => (hE o).2.2.2
    have HW := Lib.hid hW; clear hW hE
    simp only [h1] at c12
    clear h1
    go_wp2_with fail
    go_ret
    exact Hpost.out _ (Kp.trans hk1 (Kp.new _ _))
  · have h1 : S 12 = false := by simpa using h1
    by_cases h2 : S 2 = true
    · skip
      by_cases h3 : S 5 = true
      · skip
        have hoff : offL S 1 6 last = if last && !safeL (tookL S 1 6) 1 then 12 else 0 := by simp [offL, keyT, isSec, wantI, wantR, h1, h2, h3]
        have hpost : ∀ w' c, (if last && !safeL (tookL S 1 6) 1 then 12 else 0) = c → Fr [b] w w' → WalkAt w' b (tookL S 1 6) → TakesPost w E b S 1 6 last (.returned (errV E c)) w' := fun w' c hc hk hw => ⟨by rw [hoff, hc], hk, fun _ => hw⟩
        have Hpost := Lib.hid hpost; clear hpost hoff
        have htook : tookL S 1 6 = upd S 12 true := rfl
        have Htook := Lib.hid htook; clear htook
        cases last with
        | false =>
          go_enter Tryz.func58, Tryz.ntmps58
          go_wp2_with fail
          (with_reducible refine (Hw.out w).mono ?_)
          rintro e w1 ⟨hk1, rfl⟩
          have hW : ∀ o, WalkAt (w1.alloc o) b S := fun o => Kp.walk (Kp.trans hk1 (Kp.new w1 o)) H.out
          have hE : ∀ o, Errs (w1.alloc o) E := fun o => Kp.errs (Kp.trans hk1 (Kp.new w1 o)) HE.out
          have c2 := fun o => (hW o 2 (by omega)).1
          have c5 := fun o => (hW o 5 (by omega)).1
          have c12 := fun o => (hW o 12 (by omega)).1
          have z12 := fun o => (hW o 12 (by omega)).2
          have e10 := fun o => (hE o).2.1
          have e11 := fun o => (hE o).2.2.1
          have e12 := fun o => (hE o).2.2.2
          have HW := Lib.hid hW; clear hW hE
          simp only [h1] at c12
          simp only [h2] at c2
          simp only [h3] at c5
          clear h1 h2 h3
          go_wp2_with fail
          go_quiet (fail)
          go_wp2_with fail
          go_ret
          exact Hpost.out _ 0 rfl (((Fr.of_kp (Kp.trans hk1 (Kp.trans (Kp.new _ _) (Kp.of_drewN _ _)))).mono (by simp)).trans (Fr.set _ ⟨b, 12, none⟩ _)) (by rw [Htook.out]; exact (WalkAt.set (Kp.walk (Kp.of_drewN _ _) (HW.out _)) 12 (by omega)))
        | true =>
          go_enter Tryz.func58, Tryz.ntmps58
          go_wp2_with fail
          (with_reducible refine (Hw.out w).mono ?_)
          rintro e w1 ⟨hk1, rfl⟩
          have hW : ∀ o, WalkAt (w1.alloc o) b S := fun o => Kp.walk (Kp.trans hk1 (Kp.new w1 o)) H.out
          have hE : ∀ o, Errs (w1.alloc o) E := fun o => Kp.errs (Kp.trans hk1 (Kp.new w1 o)) HE.out
          have c2 := fun o => (hW o 2 (by omega)).1
          have c5 := fun o => (hW o 5 (by omega)).1
          have c12 := fun o => (hW o 12 (by omega)).1
          have z12 := fun o => (hW o 12 (by omega)).2
          have e10 := fun o => (hE o).2.1
          have e11 := fun o => (hE o).2.2.1
          have e12 := fun o => (hE o).2.2.2
          have HW := Lib.hid hW; clear hW hE
          simp only [h1] at c12
          simp only [h2] at c2
          simp only [h3] at c5
          clear h1 h2 h3
          go_wp2_with fail
          go_quiet (fail)
          go_wp2_with fail
          (with_reducible refine (safe_any _ b (tookL S 1 6) 1 (by omega) (by rw [Htook.out]; exact (WalkAt.set (Kp.walk (Kp.of_drewN _ _) (HW.out _)) 12 (by omega)))).mono ?_)
          rintro e w3 ⟨rfl, rfl⟩
          by_cases hq : safeL (tookL S 1 6) 1 = true
          · skip
            have Hc := Lib.hid (show (if true && !safeL (tookL S 1 6) 1 then 12 else 0) = 0 by rw [hq]; rfl)
            rw [hq]; clear hq
            go_wp2_with fail
            go_ret
            exact Hpost.out _ 0 Hc.out (((Fr.of_kp (Kp.trans hk1 (Kp.trans (Kp.new _ _) (Kp.of_drewN _ _)))).mono (by simp)).trans (Fr.set _ ⟨b, 12, none⟩ _)) (by rw [Htook.out]; exact (WalkAt.set (Kp.walk (Kp.of_drewN _ _) (HW.out _)) 12 (by omega)))
          · have hq : safeL (tookL S 1 6) 1 = false := by simpa using hq
            have Hc := Lib.hid (show (if true && !safeL (tookL S 1 6) 1 then 12 else 0) = 12 by rw [hq]; rfl)
            rw [hq]; clear hq
            go_wp2_with fail
            go_ret
            exact Hpost.out _ 12 Hc.out (((Fr.of_kp (Kp.trans hk1 (Kp.trans (Kp.new _ _) (Kp.of_drewN _ _)))).mono (by simp)).trans (Fr.set _ ⟨b, 12, none⟩ _)) (by rw [Htook.out]; exact (WalkAt.set (Kp.walk (Kp.of_drewN _ _) (HW.out _)) 12 (by omega)))
      · have h3 : S 5 = false := by simpa using h3
        have hoff : offL S 1 6 last = 11 := by simp [offL, keyT, isSec, wantI, wantR, h1, h2, h3]
        have hpost : ∀ w', Kp w w' → TakesPost w E b S 1 6 last (.returned (.iface 229 (.pointer (some (E 11))))) w' := fun w' hk => ⟨by rw [hoff]; rfl, (Fr.of_kp hk).mono (by simp), by rw [hoff]; simp⟩
        have Hpost := Lib.hid hpost; clear hpost hoff
        go_enter Tryz.func58, Tryz.ntmps58
        go_wp2_with fail
        (with_reducible refine (Hw.out w).mono ?_)
        rintro e w1 ⟨hk1, rfl⟩
        have hW : ∀ o, WalkAt (w1.alloc o) b S := fun o => Kp.walk (Kp.trans hk1 (Kp.new w1 o)) H.out
        have hE : ∀ o, Errs (w1.alloc o) E := fun o => Kp.errs (Kp.trans hk1 (Kp.new w1 o)) HE.out
        have c2 := fun o => (hW o 2 (by omega)).1
        have c5 := fun o => (hW o 5 (by omega)).1
        have c12 := fun o => (hW o 12 (by omega)).1
        have z12 := fun o => (hW o 12 (by omega)).2
        have e10 := fun o => (hE o).2.1
        have e11 := fun o => (hE o).2.2.1
        have e12 := fun o => (hE o).2.2.2
        have HW := Lib.hid hW; clear hW hE
        simp only [h1] at c12
        simp only [h2] at c2
        simp only [h3] at c5
        clear h1 h2 h3
        go_wp2_with fail
        go_quiet (fail)
        go_wp2_with fail
        go_ret
        exact Hpost.out _ (Kp.trans hk1 (Kp.trans (Kp.new _ _) (Kp.of_drewN _ _)))
    · have h2 : S 2 = false := by simpa using h2
      have hoff : offL S 1 6 last = 11 := by simp [offL, keyT, isSec, wantI, wantR, h1, h2]
      have hpost : ∀ w', Kp w w' → TakesPost w E b S 1 6 last (.returned (.iface 229 (.pointer (some (E 11))))) w' := fun w' hk => ⟨by rw [hoff]; rfl, (Fr.of_kp hk).mono (by simp), by rw [hoff]; simp⟩
      have Hpost := Lib.hid hpost; clear hpost hoff
      go_enter Tryz.func58, Tryz.ntmps58
      go_wp2_with fail
      (with_reducible refine (Hw.out w).mono ?_)
      rintro e w1 ⟨hk1, rfl⟩
      have hW : ∀ o, WalkAt (w1.alloc o) b S := fun o => Kp.walk (Kp.trans hk1 (Kp.new w1 o)) H.out
      have hE : ∀ o, Errs (w1.alloc o) E := fun o => Kp.errs (Kp.trans hk1 (Kp.new w1 o)) HE.out
      have c2 := fun o => (hW o 2 (by omega)).1
      have c5 := fun o => (hW o 5 (by omega)).1
      have c12 := fun o => (hW o 12 (by omega)).1
      have z12 := fun o => (hW o 12 (by omega)).2
      have e10 := fun o => (hE o).2.1
      have e11 := fun o => (hE o).2.2.1
      have e12 := fun o => (hE o).2.2.2
      have HW := Lib.hid hW; clear hW hE
      simp only [h1] at c12
      simp only [h2] at c2
      clear h1 h2
      go_wp2_with fail
      go_quiet (fail)
      go_wp2_with fail
      go_ret
      exact Hpost.out _ (Kp.trans hk1 (Kp.trans (Kp.new _ _) (Kp.of_drewN _ _)))

set_option maxRecDepth 100000 in
set_option maxHeartbeats 4000000 in
theorem takes_1_7 (w : World) (E : Nat → Addr) (hE : Errs w E) (b : Nat) (S : Nat → Bool) (h : WalkAt w b S) (last : Bool) : Calls Tryz.prog 58 #[.pointer (some ⟨b, 0, none⟩), iv 1, iv 7, .bool last] w (TakesPost w E b S 1 7 last) := by
  have Hw := Lib.hid (show ∀ w, Calls Tryz.prog 98 #[iv 7] w fun e w' => Kp w w' ∧ e = .returned (.tuple #[.agg #[iv 0, iv 0, iv 0], .bool false]) from fun w => wants_any w 7 (by omega) (by omega))
  have H := Lib.hid h; clear h
  have HE := Lib.hid hE; clear hE
  have hoff : offL S 1 7 last = if last && !safeL (tookL S 1 7) 1 then 12 else 0 := by simp [offL, keyT, isSec]
  have hpost : ∀ w' c, (if last && !safeL (tookL S 1 7) 1 then 12 else 0) = c → Fr [b] w w' → WalkAt w' b (tookL S 1 7) → TakesPost w E b S 1 7 last (.returned (errV E c)) w' := fun w' c hc hk hw => ⟨by rw [hoff, hc], hk, fun _ => hw⟩
  have Hpost := Lib.hid hpost; clear hpost hoff
  have htook : tookL S 1 7 = upd S 13 true := rfl
  have Htook := Lib.hid htook; clear htook
  cases last with
  | false =>
    go_enter Tryz.func58, Tryz.ntmps58
    go_wp2_with fail
    (with_reducible refine (Hw.out w).mono ?_)
    rintro e w1 ⟨hk1, rfl⟩
    have hW : ∀ o, WalkAt (w1.alloc o) b S := fun o => Kp.walk (Kp.trans hk1 (Kp.new w1 o)) H.out
    have hE : ∀ o, Errs (w1.alloc o) E := fun o => Kp.errs (Kp.trans hk1 (Kp.new w1 o)) HE.out
    have c13 := fun o => (hW o 13 (by omega)).1
    have z13 := fun o => (hW o 13 (by omega)).2
    have e10 := fun o => (hE o).2.1
    have e11 := fun o => (hE o).2.2.1
    have e12 := fun o => (hE o).2.2.2
    have HW := Lib.hid hW; clear hW hE
    go_wp2_with fail
    go_quiet (fail)
    go_wp2_with fail
    go_ret
    exact Hpost.out _ 0 rfl (((Fr.of_kp (Kp.trans hk1 (Kp.trans (Kp.new _ _) (Kp.of_drewN _ _)))).mono (by simp)).trans (Fr.set _ ⟨b, 13, none⟩ _)) (by rw [Htook.out]; exact (WalkAt.set (Kp.walk (Kp.of_drewN _ _) (HW.out _)) 13 (by omega)))
  | true =>
    go_enter Tryz.func58, Tryz.ntmps58
    go_wp2_with fail
    (with_reducible refine (Hw.out w).mono ?_)
    rintro e w1 ⟨hk1, rfl⟩
    have hW : ∀ o, WalkAt (w1.alloc o) b S := fun o => Kp.walk (Kp.trans hk1 (Kp.new w1 o)) H.out
    have hE : ∀ o, Errs (w1.alloc o) E := fun o => Kp.errs (Kp.trans hk1 (Kp.new w1 o)) HE.out
    have c13 := fun o => (hW o 13 (by omega)).1
    have z13 := fun o => (hW o 13 (by omega)).2
    have e10 := fun o => (hE o).2.1
    have e11 := fun o => (hE o).2.2.1
    have e12 := fun o => (hE o).2.2.2
    have HW := Lib.hid hW; clear hW hE
    go_wp2_with fail
    go_quiet (fail)
    go_wp2_with fail
    (with_reducible refine (safe_any _ b (tookL S 1 7) 1 (by omega) (by rw [Htook.out]; exact (WalkAt.set (Kp.walk (Kp.of_drewN _ _) (HW.out _)) 13 (by omega)))).mono ?_)
    rintro e w3 ⟨rfl, rfl⟩
    by_cases hq : safeL (tookL S 1 7) 1 = true
    · skip
      have Hc := Lib.hid (show (if true && !safeL (tookL S 1 7) 1 then 12 else 0) = 0 by rw [hq]; rfl)
      rw [hq]; clear hq
      go_wp2_with fail
      go_ret
      exact Hpost.out _ 0 Hc.out (((Fr.of_kp (Kp.trans hk1 (Kp.trans (Kp.new _ _) (Kp.of_drewN _ _)))).mono (by simp)).trans (Fr.set _ ⟨b, 13, none⟩ _)) (by rw [Htook.out]; exact (WalkAt.set (Kp.walk (Kp.of_drewN _ _) (HW.out _)) 13 (by omega)))
    · have hq : safeL (tookL S 1 7) 1 = false := by simpa using hq
      have Hc := Lib.hid (show (if true && !safeL (tookL S 1 7) 1 then 12 else 0) = 12 by rw [hq]; rfl)
      rw [hq]; clear hq
      go_wp2_with fail
      go_ret
      exact Hpost.out _ 12 Hc.out (((Fr.of_kp (Kp.trans hk1 (Kp.trans (Kp.new _ _) (Kp.of_drewN _ _)))).mono (by simp)).trans (Fr.set _ ⟨b, 13, none⟩ _)) (by rw [Htook.out]; exact (WalkAt.set (Kp.walk (Kp.of_drewN _ _) (HW.out _)) 13 (by omega)))

theorem takes_any (w : World) (E : Nat → Addr) (hE : Errs w E) (b : Nat) (S : Nat → Bool) (h : WalkAt w b S) (f t : Int) (hf : f = 0 ∨ f = 1) (h1 : 1 ≤ t) (h7 : t ≤ 7) (last : Bool) :
    Calls Tryz.prog 58 #[.pointer (some ⟨b, 0, none⟩), iv f, iv t, .bool last] w (TakesPost w E b S f t last) := by
  rcases hf with rfl | rfl
  · rcases (show t = 1 ∨ t = 2 ∨ t = 3 ∨ t = 4 ∨ t = 5 ∨ t = 6 ∨ t = 7 by omega) with rfl | rfl | rfl | rfl | rfl | rfl | rfl
    · exact takes_0_1 w E hE b S h last
    · exact takes_0_2 w E hE b S h last
    · exact takes_0_3 w E hE b S h last
    · exact takes_0_4 w E hE b S h last
    · exact takes_0_5 w E hE b S h last
    · exact takes_0_6 w E hE b S h last
    · exact takes_0_7 w E hE b S h last
  · rcases (show t = 1 ∨ t = 2 ∨ t = 3 ∨ t = 4 ∨ t = 5 ∨ t = 6 ∨ t = 7 by omega) with rfl | rfl | rfl | rfl | rfl | rfl | rfl
    · exact takes_1_1 w E hE b S h last
    · exact takes_1_2 w E hE b S h last
    · exact takes_1_3 w E hE b S h last
    · exact takes_1_4 w E hE b S h last
    · exact takes_1_5 w E hE b S h last
    · exact takes_1_6 w E hE b S h last
    · exact takes_1_7 w E hE b S h last
end Go.Proofs.YtkmejehhdjdlbaaGreatDoor
