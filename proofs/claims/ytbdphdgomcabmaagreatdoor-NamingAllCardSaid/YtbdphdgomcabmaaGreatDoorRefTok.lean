/- The document's check, token by token. Conditions: the side is 0 or 1, the token is one. -/
import Derived.Test.YtbdphdgomcabmaaGreatDoorNa3
namespace Go.Proofs.YtbdphdgomcabmaaGreatDoor
open Go.RowKit

/-- What stands ahead of a place: e of each side, s of each side, the tokens (from 4 on). -/
def snV (X : Nat → Bool) : Value := .agg #[.bool (X 0), .bool (X 1), .bool (X 2), .bool (X 3), .bool (X 4), .bool (X 5), .bool (X 6), .bool (X 7), .bool (X 8), .bool (X 9), .bool (X 10), .bool (X 11)]
def safeR (X : Nat → Bool) (side : Int) : Bool := if side = 0 then (!X 11 || X 0) && ((!X 9 || X 7) && (!X 10 || X 8)) else (!X 11 || X 1) && ((!X 8 || X 7) && (!X 10 || X 9))
def hasR (X : Nat → Bool) (t : Int) : Bool := if t = 3 then X 0 && X 1 else if t = 4 then X 0 && X 3 else if t = 5 then X 2 && X 1 else X 2 && X 3
def tokR (X : Nat → Bool) (side t : Int) : (Nat → Bool) × Nat :=
  if t = 1 then (if X side.toNat then (X, 10) else (upd X side.toNat true, 0))
  else if t = 2 then (if X (2 + side.toNat) then (X, 10) else if safeR X side then (upd X (2 + side.toNat) true, 0) else (X, 12))
  else if t = 7 then (upd X 11 true, 0)
  else if X (4 + t.toNat) then (X, 10) else if hasR X t then (upd X (4 + t.toNat) true, 0) else (X, 11)

set_option maxHeartbeats 2000000 in
theorem safeR_0 (w : World) (X : Nat → Bool) : Calls Tryz.prog 76 #[snV X, iv 0] w fun e w' => e = .returned (.bool (safeR X 0)) ∧ ∃ o, w' = w.alloc o := by
  have hs : safeR X 0 = ((!X 11 || X 0) && ((!X 9 || X 7) && (!X 10 || X 8))) := rfl
  rw [hs]
  clear hs
  unfold snV
  generalize X 0 = x0, X 1 = x1, X 2 = x2, X 3 = x3, X 4 = x4, X 5 = x5, X 6 = x6, X 7 = x7, X 8 = x8, X 9 = x9, X 10 = x10, X 11 = x11
  go_enter Tryz.func76, Tryz.ntmps76
  go_wp2_with fail
  all_goals
    go_ret
    refine ⟨?_, _, rfl⟩
    simp_all
set_option maxHeartbeats 2000000 in
theorem safeR_1 (w : World) (X : Nat → Bool) : Calls Tryz.prog 76 #[snV X, iv 1] w fun e w' => e = .returned (.bool (safeR X 1)) ∧ ∃ o, w' = w.alloc o := by
  have hs : safeR X 1 = ((!X 11 || X 1) && ((!X 8 || X 7) && (!X 10 || X 9))) := rfl
  rw [hs]
  clear hs
  unfold snV
  generalize X 0 = x0, X 1 = x1, X 2 = x2, X 3 = x3, X 4 = x4, X 5 = x5, X 6 = x6, X 7 = x7, X 8 = x8, X 9 = x9, X 10 = x10, X 11 = x11
  go_enter Tryz.func76, Tryz.ntmps76
  go_wp2_with fail
  all_goals
    go_ret
    refine ⟨?_, _, rfl⟩
    simp_all
theorem safeR_any (w : World) (X : Nat → Bool) (f : Int) (hf : f = 0 ∨ f = 1) : Calls Tryz.prog 76 #[snV X, iv f] w fun e w' => e = .returned (.bool (safeR X f)) ∧ ∃ o, w' = w.alloc o := by
  rcases hf with rfl | rfl
  · exact safeR_0 w X
  · exact safeR_1 w X
set_option maxHeartbeats 2000000 in
theorem hasR_any (w : World) (X : Nat → Bool) (t : Int) (h : t = 3 ∨ t = 4 ∨ t = 5 ∨ t = 6) : Calls Tryz.prog 98 #[snV X, iv t] w fun e w' => e = .returned (.bool (hasR X t)) ∧ ∃ o, w' = w.alloc o := by
  rcases h with rfl | rfl | rfl | rfl
  all_goals
    simp only [hasR, reduceIte, show ¬ ((4 : Int) = 3) by decide, show ¬ ((5 : Int) = 3) by decide, show ¬ ((5 : Int) = 4) by decide, show ¬ ((6 : Int) = 3) by decide, show ¬ ((6 : Int) = 4) by decide, show ¬ ((6 : Int) = 5) by decide]
    unfold snV
    generalize X 0 = x0, X 1 = x1, X 2 = x2, X 3 = x3, X 4 = x4, X 5 = x5, X 6 = x6, X 7 = x7, X 8 = x8, X 9 = x9, X 10 = x10, X 11 = x11
    go_enter Tryz.func98, Tryz.ntmps98
    go_wp2_with fail
    all_goals
      go_ret
      refine ⟨?_, _, rfl⟩
      simp_all

def TokRPost (w : World) (X : Nat → Bool) (side t : Int) (e : Ending) (w' : World) : Prop := e = .returned (.tuple #[snV (tokR X side t).1, iv ((tokR X side t).2 : Nat)]) ∧ Kp w w'
theorem kp_2 (w : World) (a b : Obj) : Kp w ((w.alloc a).alloc b) := Kp.trans (Kp.new _ _) (Kp.new _ _)
theorem kp_3 (w : World) (a b c : Obj) : Kp w (((w.alloc a).alloc b).alloc c) := Kp.trans (kp_2 _ _ _) (Kp.new _ _)
set_option maxHeartbeats 8000000 in
theorem tokR_1 (w : World) (X : Nat → Bool) (f : Int) (hf : f = 0 ∨ f = 1) : Calls Tryz.prog 75 #[snV X, iv f, iv 1] w (TokRPost w X f 1) := by
  rcases hf with rfl | rfl
  · cases hx : X 0 with
    | true =>
      have H := Lib.hid (show tokR X 0 1 = (X, 10) by unfold tokR; simp [hx])
      unfold snV
      go_enter Tryz.func75, Tryz.ntmps75
      go_wp2_with fail
      refine bodyPost_ret (v := .tuple #[snV X, iv 10]) (by simp [results, Tryz.results75, go_sem, snV, *]) rfl ⟨by rw [H.out]; rfl, ?_⟩
      first | exact kp_2 _ _ _ | exact kp_3 _ _ _ _ | exact Kp.refl _
    | false =>
      have H := Lib.hid (show tokR X 0 1 = ((upd X 0 true), 0) by unfold tokR; simp [hx])
      unfold snV
      go_enter Tryz.func75, Tryz.ntmps75
      go_wp2_with fail
      refine bodyPost_ret (v := .tuple #[snV (upd X 0 true), iv 0]) (by simp [results, Tryz.results75, go_sem, snV, upd, *]) rfl ⟨by rw [H.out]; rfl, ?_⟩
      first | exact kp_2 _ _ _ | exact kp_3 _ _ _ _ | exact Kp.refl _
  · cases hx : X 1 with
    | true =>
      have H := Lib.hid (show tokR X 1 1 = (X, 10) by unfold tokR; simp [hx])
      unfold snV
      go_enter Tryz.func75, Tryz.ntmps75
      go_wp2_with fail
      refine bodyPost_ret (v := .tuple #[snV X, iv 10]) (by simp [results, Tryz.results75, go_sem, snV, *]) rfl ⟨by rw [H.out]; rfl, ?_⟩
      first | exact kp_2 _ _ _ | exact kp_3 _ _ _ _ | exact Kp.refl _
    | false =>
      have H := Lib.hid (show tokR X 1 1 = ((upd X 1 true), 0) by unfold tokR; simp [hx])
      unfold snV
      go_enter Tryz.func75, Tryz.ntmps75
      go_wp2_with fail
      refine bodyPost_ret (v := .tuple #[snV (upd X 1 true), iv 0]) (by simp [results, Tryz.results75, go_sem, snV, upd, *]) rfl ⟨by rw [H.out]; rfl, ?_⟩
      first | exact kp_2 _ _ _ | exact kp_3 _ _ _ _ | exact Kp.refl _
set_option maxHeartbeats 8000000 in
theorem tokR_2 (w : World) (X : Nat → Bool) (f : Int) (hf : f = 0 ∨ f = 1) : Calls Tryz.prog 75 #[snV X, iv f, iv 2] w (TokRPost w X f 2) := by
  have hq := fun w => safeR_any w X f hf
  rcases hf with rfl | rfl
  · cases hx : X 2 with
    | true =>
      have H := Lib.hid (show tokR X 0 2 = (X, 10) by unfold tokR; simp [hx])
      unfold snV
      go_enter Tryz.func75, Tryz.ntmps75
      go_wp2_with fail
      refine bodyPost_ret (v := .tuple #[snV X, iv 10]) (by simp [results, Tryz.results75, go_sem, snV, *]) rfl ⟨by rw [H.out]; rfl, ?_⟩
      first | exact kp_2 _ _ _ | exact kp_3 _ _ _ _ | exact Kp.refl _
    | false =>
      cases hs : safeR X 0 with
      | true =>
        simp only [snV, hx, hs] at hq
        have Hs := Lib.hid hq; clear hq
        have H := Lib.hid (show tokR X 0 2 = ((upd X 2 true), 0) by unfold tokR; simp [hx, hs])
        unfold snV
        go_enter Tryz.func75, Tryz.ntmps75
        go_wp2_with fail
        (with_reducible refine (Hs.out _).mono ?_)
        rintro e w1 ⟨rfl, o, rfl⟩
        clear Hs
        go_wp2_with fail
        refine bodyPost_ret (v := .tuple #[snV (upd X 2 true), iv 0]) (by simp [results, Tryz.results75, go_sem, snV, upd, *]) rfl ⟨by rw [H.out]; rfl, ?_⟩
        first | exact kp_2 _ _ _ | exact kp_3 _ _ _ _ | exact Kp.refl _
      | false =>
        simp only [snV, hx, hs] at hq
        have Hs := Lib.hid hq; clear hq
        have H := Lib.hid (show tokR X 0 2 = (X, 12) by unfold tokR; simp [hx, hs])
        unfold snV
        go_enter Tryz.func75, Tryz.ntmps75
        go_wp2_with fail
        (with_reducible refine (Hs.out _).mono ?_)
        rintro e w1 ⟨rfl, o, rfl⟩
        clear Hs
        go_wp2_with fail
        refine bodyPost_ret (v := .tuple #[snV X, iv 12]) (by simp [results, Tryz.results75, go_sem, snV, *]) rfl ⟨by rw [H.out]; rfl, ?_⟩
        first | exact kp_2 _ _ _ | exact kp_3 _ _ _ _ | exact Kp.refl _
  · cases hx : X 3 with
    | true =>
      have H := Lib.hid (show tokR X 1 2 = (X, 10) by unfold tokR; simp [hx])
      unfold snV
      go_enter Tryz.func75, Tryz.ntmps75
      go_wp2_with fail
      refine bodyPost_ret (v := .tuple #[snV X, iv 10]) (by simp [results, Tryz.results75, go_sem, snV, *]) rfl ⟨by rw [H.out]; rfl, ?_⟩
      first | exact kp_2 _ _ _ | exact kp_3 _ _ _ _ | exact Kp.refl _
    | false =>
      cases hs : safeR X 1 with
      | true =>
        simp only [snV, hx, hs] at hq
        have Hs := Lib.hid hq; clear hq
        have H := Lib.hid (show tokR X 1 2 = ((upd X 3 true), 0) by unfold tokR; simp [hx, hs])
        unfold snV
        go_enter Tryz.func75, Tryz.ntmps75
        go_wp2_with fail
        (with_reducible refine (Hs.out _).mono ?_)
        rintro e w1 ⟨rfl, o, rfl⟩
        clear Hs
        go_wp2_with fail
        refine bodyPost_ret (v := .tuple #[snV (upd X 3 true), iv 0]) (by simp [results, Tryz.results75, go_sem, snV, upd, *]) rfl ⟨by rw [H.out]; rfl, ?_⟩
        first | exact kp_2 _ _ _ | exact kp_3 _ _ _ _ | exact Kp.refl _
      | false =>
        simp only [snV, hx, hs] at hq
        have Hs := Lib.hid hq; clear hq
        have H := Lib.hid (show tokR X 1 2 = (X, 12) by unfold tokR; simp [hx, hs])
        unfold snV
        go_enter Tryz.func75, Tryz.ntmps75
        go_wp2_with fail
        (with_reducible refine (Hs.out _).mono ?_)
        rintro e w1 ⟨rfl, o, rfl⟩
        clear Hs
        go_wp2_with fail
        refine bodyPost_ret (v := .tuple #[snV X, iv 12]) (by simp [results, Tryz.results75, go_sem, snV, *]) rfl ⟨by rw [H.out]; rfl, ?_⟩
        first | exact kp_2 _ _ _ | exact kp_3 _ _ _ _ | exact Kp.refl _
set_option maxHeartbeats 8000000 in
theorem tokR_3 (w : World) (X : Nat → Bool) (f : Int) (_hf : f = 0 ∨ f = 1) : Calls Tryz.prog 75 #[snV X, iv f, iv 3] w (TokRPost w X f 3) := by
  have hq := fun w => hasR_any w X 3 (by omega)
  cases hx : X 7 with
  | true =>
    have H := Lib.hid (show tokR X f 3 = (X, 10) by unfold tokR; simp [hx])
    unfold snV
    go_enter Tryz.func75, Tryz.ntmps75
    go_wp2_with fail
    refine bodyPost_ret (v := .tuple #[snV X, iv 10]) (by simp [results, Tryz.results75, go_sem, snV, *]) rfl ⟨by rw [H.out]; rfl, ?_⟩
    first | exact kp_2 _ _ _ | exact kp_3 _ _ _ _ | exact Kp.refl _
  | false =>
    cases hs : hasR X 3 with
    | true =>
      simp only [snV, hx, hs] at hq
      have Hs := Lib.hid hq; clear hq
      have H := Lib.hid (show tokR X f 3 = ((upd X 7 true), 0) by unfold tokR; simp [hx, hs])
      unfold snV
      go_enter Tryz.func75, Tryz.ntmps75
      go_wp2_with fail
      (with_reducible refine (Hs.out _).mono ?_)
      rintro e w1 ⟨rfl, o, rfl⟩
      clear Hs
      go_wp2_with fail
      refine bodyPost_ret (v := .tuple #[snV (upd X 7 true), iv 0]) (by simp [results, Tryz.results75, go_sem, snV, upd, *]) rfl ⟨by rw [H.out]; rfl, ?_⟩
      first | exact kp_2 _ _ _ | exact kp_3 _ _ _ _ | exact Kp.refl _
    | false =>
      simp only [snV, hx, hs] at hq
      have Hs := Lib.hid hq; clear hq
      have H := Lib.hid (show tokR X f 3 = (X, 11) by unfold tokR; simp [hx, hs])
      unfold snV
      go_enter Tryz.func75, Tryz.ntmps75
      go_wp2_with fail
      (with_reducible refine (Hs.out _).mono ?_)
      rintro e w1 ⟨rfl, o, rfl⟩
      clear Hs
      go_wp2_with fail
      refine bodyPost_ret (v := .tuple #[snV X, iv 11]) (by simp [results, Tryz.results75, go_sem, snV, *]) rfl ⟨by rw [H.out]; rfl, ?_⟩
      first | exact kp_2 _ _ _ | exact kp_3 _ _ _ _ | exact Kp.refl _
set_option maxHeartbeats 8000000 in
theorem tokR_4 (w : World) (X : Nat → Bool) (f : Int) (_hf : f = 0 ∨ f = 1) : Calls Tryz.prog 75 #[snV X, iv f, iv 4] w (TokRPost w X f 4) := by
  have hq := fun w => hasR_any w X 4 (by omega)
  cases hx : X 8 with
  | true =>
    have H := Lib.hid (show tokR X f 4 = (X, 10) by unfold tokR; simp [hx])
    unfold snV
    go_enter Tryz.func75, Tryz.ntmps75
    go_wp2_with fail
    refine bodyPost_ret (v := .tuple #[snV X, iv 10]) (by simp [results, Tryz.results75, go_sem, snV, *]) rfl ⟨by rw [H.out]; rfl, ?_⟩
    first | exact kp_2 _ _ _ | exact kp_3 _ _ _ _ | exact Kp.refl _
  | false =>
    cases hs : hasR X 4 with
    | true =>
      simp only [snV, hx, hs] at hq
      have Hs := Lib.hid hq; clear hq
      have H := Lib.hid (show tokR X f 4 = ((upd X 8 true), 0) by unfold tokR; simp [hx, hs])
      unfold snV
      go_enter Tryz.func75, Tryz.ntmps75
      go_wp2_with fail
      (with_reducible refine (Hs.out _).mono ?_)
      rintro e w1 ⟨rfl, o, rfl⟩
      clear Hs
      go_wp2_with fail
      refine bodyPost_ret (v := .tuple #[snV (upd X 8 true), iv 0]) (by simp [results, Tryz.results75, go_sem, snV, upd, *]) rfl ⟨by rw [H.out]; rfl, ?_⟩
      first | exact kp_2 _ _ _ | exact kp_3 _ _ _ _ | exact Kp.refl _
    | false =>
      simp only [snV, hx, hs] at hq
      have Hs := Lib.hid hq; clear hq
      have H := Lib.hid (show tokR X f 4 = (X, 11) by unfold tokR; simp [hx, hs])
      unfold snV
      go_enter Tryz.func75, Tryz.ntmps75
      go_wp2_with fail
      (with_reducible refine (Hs.out _).mono ?_)
      rintro e w1 ⟨rfl, o, rfl⟩
      clear Hs
      go_wp2_with fail
      refine bodyPost_ret (v := .tuple #[snV X, iv 11]) (by simp [results, Tryz.results75, go_sem, snV, *]) rfl ⟨by rw [H.out]; rfl, ?_⟩
      first | exact kp_2 _ _ _ | exact kp_3 _ _ _ _ | exact Kp.refl _
set_option maxHeartbeats 8000000 in
theorem tokR_5 (w : World) (X : Nat → Bool) (f : Int) (_hf : f = 0 ∨ f = 1) : Calls Tryz.prog 75 #[snV X, iv f, iv 5] w (TokRPost w X f 5) := by
  have hq := fun w => hasR_any w X 5 (by omega)
  cases hx : X 9 with
  | true =>
    have H := Lib.hid (show tokR X f 5 = (X, 10) by unfold tokR; simp [hx])
    unfold snV
    go_enter Tryz.func75, Tryz.ntmps75
    go_wp2_with fail
    refine bodyPost_ret (v := .tuple #[snV X, iv 10]) (by simp [results, Tryz.results75, go_sem, snV, *]) rfl ⟨by rw [H.out]; rfl, ?_⟩
    first | exact kp_2 _ _ _ | exact kp_3 _ _ _ _ | exact Kp.refl _
  | false =>
    cases hs : hasR X 5 with
    | true =>
      simp only [snV, hx, hs] at hq
      have Hs := Lib.hid hq; clear hq
      have H := Lib.hid (show tokR X f 5 = ((upd X 9 true), 0) by unfold tokR; simp [hx, hs])
      unfold snV
      go_enter Tryz.func75, Tryz.ntmps75
      go_wp2_with fail
      (with_reducible refine (Hs.out _).mono ?_)
      rintro e w1 ⟨rfl, o, rfl⟩
      clear Hs
      go_wp2_with fail
      refine bodyPost_ret (v := .tuple #[snV (upd X 9 true), iv 0]) (by simp [results, Tryz.results75, go_sem, snV, upd, *]) rfl ⟨by rw [H.out]; rfl, ?_⟩
      first | exact kp_2 _ _ _ | exact kp_3 _ _ _ _ | exact Kp.refl _
    | false =>
      simp only [snV, hx, hs] at hq
      have Hs := Lib.hid hq; clear hq
      have H := Lib.hid (show tokR X f 5 = (X, 11) by unfold tokR; simp [hx, hs])
      unfold snV
      go_enter Tryz.func75, Tryz.ntmps75
      go_wp2_with fail
      (with_reducible refine (Hs.out _).mono ?_)
      rintro e w1 ⟨rfl, o, rfl⟩
      clear Hs
      go_wp2_with fail
      refine bodyPost_ret (v := .tuple #[snV X, iv 11]) (by simp [results, Tryz.results75, go_sem, snV, *]) rfl ⟨by rw [H.out]; rfl, ?_⟩
      first | exact kp_2 _ _ _ | exact kp_3 _ _ _ _ | exact Kp.refl _
set_option maxHeartbeats 8000000 in
theorem tokR_6 (w : World) (X : Nat → Bool) (f : Int) (_hf : f = 0 ∨ f = 1) : Calls Tryz.prog 75 #[snV X, iv f, iv 6] w (TokRPost w X f 6) := by
  have hq := fun w => hasR_any w X 6 (by omega)
  cases hx : X 10 with
  | true =>
    have H := Lib.hid (show tokR X f 6 = (X, 10) by unfold tokR; simp [hx])
    unfold snV
    go_enter Tryz.func75, Tryz.ntmps75
    go_wp2_with fail
    refine bodyPost_ret (v := .tuple #[snV X, iv 10]) (by simp [results, Tryz.results75, go_sem, snV, *]) rfl ⟨by rw [H.out]; rfl, ?_⟩
    first | exact kp_2 _ _ _ | exact kp_3 _ _ _ _ | exact Kp.refl _
  | false =>
    cases hs : hasR X 6 with
    | true =>
      simp only [snV, hx, hs] at hq
      have Hs := Lib.hid hq; clear hq
      have H := Lib.hid (show tokR X f 6 = ((upd X 10 true), 0) by unfold tokR; simp [hx, hs])
      unfold snV
      go_enter Tryz.func75, Tryz.ntmps75
      go_wp2_with fail
      (with_reducible refine (Hs.out _).mono ?_)
      rintro e w1 ⟨rfl, o, rfl⟩
      clear Hs
      go_wp2_with fail
      refine bodyPost_ret (v := .tuple #[snV (upd X 10 true), iv 0]) (by simp [results, Tryz.results75, go_sem, snV, upd, *]) rfl ⟨by rw [H.out]; rfl, ?_⟩
      first | exact kp_2 _ _ _ | exact kp_3 _ _ _ _ | exact Kp.refl _
    | false =>
      simp only [snV, hx, hs] at hq
      have Hs := Lib.hid hq; clear hq
      have H := Lib.hid (show tokR X f 6 = (X, 11) by unfold tokR; simp [hx, hs])
      unfold snV
      go_enter Tryz.func75, Tryz.ntmps75
      go_wp2_with fail
      (with_reducible refine (Hs.out _).mono ?_)
      rintro e w1 ⟨rfl, o, rfl⟩
      clear Hs
      go_wp2_with fail
      refine bodyPost_ret (v := .tuple #[snV X, iv 11]) (by simp [results, Tryz.results75, go_sem, snV, *]) rfl ⟨by rw [H.out]; rfl, ?_⟩
      first | exact kp_2 _ _ _ | exact kp_3 _ _ _ _ | exact Kp.refl _
set_option maxHeartbeats 8000000 in
theorem tokR_7 (w : World) (X : Nat → Bool) (f : Int) (_hf : f = 0 ∨ f = 1) : Calls Tryz.prog 75 #[snV X, iv f, iv 7] w (TokRPost w X f 7) := by
  have H := Lib.hid (show tokR X f 7 = ((upd X 11 true), 0) by unfold tokR; simp [])
  unfold snV
  go_enter Tryz.func75, Tryz.ntmps75
  go_wp2_with fail
  refine bodyPost_ret (v := .tuple #[snV (upd X 11 true), iv 0]) (by simp [results, Tryz.results75, go_sem, snV, upd, *]) rfl ⟨by rw [H.out]; rfl, ?_⟩
  first | exact kp_2 _ _ _ | exact kp_3 _ _ _ _ | exact Kp.refl _
theorem tokR_any (w : World) (X : Nat → Bool) (f t : Int) (hf : f = 0 ∨ f = 1) (h1 : 1 ≤ t) (h7 : t ≤ 7) : Calls Tryz.prog 75 #[snV X, iv f, iv t] w (TokRPost w X f t) := by
  rcases (show t = 1 ∨ t = 2 ∨ t = 3 ∨ t = 4 ∨ t = 5 ∨ t = 6 ∨ t = 7 by omega) with rfl | rfl | rfl | rfl | rfl | rfl | rfl
  · exact tokR_1 w X f hf
  · exact tokR_2 w X f hf
  · exact tokR_3 w X f hf
  · exact tokR_4 w X f hf
  · exact tokR_5 w X f hf
  · exact tokR_6 w X f hf
  · exact tokR_7 w X f hf
end Go.Proofs.YtbdphdgomcabmaaGreatDoor
