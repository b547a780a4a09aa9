/- What a move is on the other side. Condition: the move is one (its parts are small). -/
import Derived.Test.YtpemfmjplejdiaaDoorGa3
import Derived.Deep.RegionWith
namespace Go.Proofs.YtpemfmjplejdiaaDoor
open Go.RowKit

def mirK (k : Int) : Int := if 3 ≤ k then k - 2 else k + 2
def mirL (m : Mv) : Mv :=
  if m.op = 5 then ⟨6, 0, 0⟩ else if m.op = 6 then ⟨5, 0, 0⟩
  else if m.op = 7 then ⟨8, mirK m.key, 0⟩ else if m.op = 8 then ⟨7, mirK m.key, 0⟩
  else if m.op = 9 then ⟨10, mirK m.key, 0⟩ else if m.op = 10 then ⟨9, mirK m.key, 0⟩
  else if m.op = 3 then ⟨3, mirK m.key, 0⟩ else if m.op = 4 then ⟨4, mirK m.key, 0⟩
  else if m.op = 11 then ⟨11, m.wth - 2, m.key + 2⟩ else m

set_option maxHeartbeats 1000000 in
theorem mirK_any (w : World) (k : Int) (h1 : -100 ≤ k) (h2 : k ≤ 100) : Calls Tryd.prog 32 #[iv k] w fun e w' => e = .returned (iv (mirK k)) ∧ w' = w := by
  by_cases h : 3 ≤ k
  · have Hm := Lib.hid (show mirK k = k - 2 by unfold mirK; rw [if_pos h])
    go_enter Tryd.func32, Tryd.ntmps32
    go_wp2
    go_ret
    exact ⟨by rw [Hm.out]; rfl, rfl⟩
  · have Hm := Lib.hid (show mirK k = k + 2 by unfold mirK; rw [if_neg h])
    go_enter Tryd.func32, Tryd.ntmps32
    go_wp2
    go_ret
    exact ⟨by rw [Hm.out]; rfl, rfl⟩

def MirPost (w : World) (m : Mv) (e : Ending) (w' : World) : Prop := Kp w w' ∧ e = .returned (.agg #[iv (mirL m).op, iv (mirL m).key, iv (mirL m).wth])
theorem kp_three (w : World) (o1 o2 : Obj) (u0 u1 u2 : Value) : Kp w (((((w.alloc o1).alloc o2).setCell ⟨w.heap.size + 1, 0, none⟩ u0).setCell ⟨w.heap.size + 1, 1, none⟩ u1).setCell ⟨w.heap.size + 1, 2, none⟩ u2) :=
  (((Kp.trans (Kp.new w o1) (Kp.new _ o2)).setCell (by simp) _).setCell (by simp) _).setCell (by simp) _
set_option maxHeartbeats 4000000 in
theorem mir_plain (w : World) (op key wth : Int) (h1 : 0 ≤ key ∧ key ≤ 100) (h2 : 0 ≤ wth ∧ wth ≤ 100) (ho : op = 5 ∨ op = 6 ∨ op = 11 ∨ op = 1 ∨ op = 2 ∨ op = 12 ∨ op = 13 ∨ op = 14) : Calls Tryd.prog 17 #[.agg #[iv op, iv key, iv wth]] w (MirPost w ⟨op, key, wth⟩) := by
  obtain ⟨k1, k2⟩ := h1
  obtain ⟨t1, t2⟩ := h2
  rcases ho with rfl | rfl | rfl | rfl | rfl | rfl | rfl | rfl
  · go_enter Tryd.func17, Tryd.ntmps17
    go_wp2_with fail
    refine bodyPost_ret (v := .agg #[iv 6, iv 0, iv 0]) (by simp [results, Tryd.results17, go_sem]) rfl ⟨?_, rfl⟩
    first | exact Kp.trans (Kp.new _ _) (Kp.new _ _) | exact kp_three _ _ _ _ _ _
  · go_enter Tryd.func17, Tryd.ntmps17
    go_wp2_with fail
    refine bodyPost_ret (v := .agg #[iv 5, iv 0, iv 0]) (by simp [results, Tryd.results17, go_sem]) rfl ⟨?_, rfl⟩
    first | exact Kp.trans (Kp.new _ _) (Kp.new _ _) | exact kp_three _ _ _ _ _ _
  · go_enter Tryd.func17, Tryd.ntmps17
    go_wp2_with fail
    refine bodyPost_ret (v := .agg #[iv 11, iv (wth - 2), iv (key + 2)]) (by simp [results, Tryd.results17, go_sem]) rfl ⟨?_, rfl⟩
    first | exact Kp.trans (Kp.new _ _) (Kp.new _ _) | exact kp_three _ _ _ _ _ _
  · go_enter Tryd.func17, Tryd.ntmps17
    go_wp2_with fail
    refine bodyPost_ret (v := .agg #[iv 1, iv key, iv wth]) (by simp [results, Tryd.results17, go_sem]) rfl ⟨?_, rfl⟩
    first | exact Kp.trans (Kp.new _ _) (Kp.new _ _) | exact kp_three _ _ _ _ _ _
  · go_enter Tryd.func17, Tryd.ntmps17
    go_wp2_with fail
    refine bodyPost_ret (v := .agg #[iv 2, iv key, iv wth]) (by simp [results, Tryd.results17, go_sem]) rfl ⟨?_, rfl⟩
    first | exact Kp.trans (Kp.new _ _) (Kp.new _ _) | exact kp_three _ _ _ _ _ _
  · go_enter Tryd.func17, Tryd.ntmps17
    go_wp2_with fail
    refine bodyPost_ret (v := .agg #[iv 12, iv key, iv wth]) (by simp [results, Tryd.results17, go_sem]) rfl ⟨?_, rfl⟩
    first | exact Kp.trans (Kp.new _ _) (Kp.new _ _) | exact kp_three _ _ _ _ _ _
  · go_enter Tryd.func17, Tryd.ntmps17
    go_wp2_with fail
    refine bodyPost_ret (v := .agg #[iv 13, iv key, iv wth]) (by simp [results, Tryd.results17, go_sem]) rfl ⟨?_, rfl⟩
    first | exact Kp.trans (Kp.new _ _) (Kp.new _ _) | exact kp_three _ _ _ _ _ _
  · go_enter Tryd.func17, Tryd.ntmps17
    go_wp2_with fail
    refine bodyPost_ret (v := .agg #[iv 14, iv key, iv wth]) (by simp [results, Tryd.results17, go_sem]) rfl ⟨?_, rfl⟩
    first | exact Kp.trans (Kp.new _ _) (Kp.new _ _) | exact kp_three _ _ _ _ _ _
set_option maxHeartbeats 4000000 in
theorem mir_call (w : World) (op key wth : Int) (h1 : 0 ≤ key ∧ key ≤ 100) (ho : op = 7 ∨ op = 8 ∨ op = 9 ∨ op = 10) : Calls Tryd.prog 17 #[.agg #[iv op, iv key, iv wth]] w (MirPost w ⟨op, key, wth⟩) := by
  obtain ⟨k1, k2⟩ := h1
  rcases ho with rfl | rfl | rfl | rfl
  · go_enter Tryd.func17, Tryd.ntmps17
    go_wp2_with fail
    (with_reducible refine (mirK_any _ key (by omega) (by omega)).mono ?_)
    rintro e w1 ⟨rfl, rfl⟩
    obtain ⟨y, hy⟩ : ∃ y, y = mirK key := ⟨_, rfl⟩
    rw [← hy]
    have Hy := Lib.hid hy; clear hy
    go_wp2_with fail
    refine bodyPost_ret (v := .agg #[iv 8, iv y, iv 0]) (by simp [results, Tryd.results17, go_sem]) rfl ⟨?_, by rw [Hy.out]; rfl⟩
    first | exact Kp.trans (Kp.new _ _) (Kp.new _ _) | exact kp_three _ _ _ _ _ _
  · go_enter Tryd.func17, Tryd.ntmps17
    go_wp2_with fail
    (with_reducible refine (mirK_any _ key (by omega) (by omega)).mono ?_)
    rintro e w1 ⟨rfl, rfl⟩
    obtain ⟨y, hy⟩ : ∃ y, y = mirK key := ⟨_, rfl⟩
    rw [← hy]
    have Hy := Lib.hid hy; clear hy
    go_wp2_with fail
    refine bodyPost_ret (v := .agg #[iv 7, iv y, iv 0]) (by simp [results, Tryd.results17, go_sem]) rfl ⟨?_, by rw [Hy.out]; rfl⟩
    first | exact Kp.trans (Kp.new _ _) (Kp.new _ _) | exact kp_three _ _ _ _ _ _
  · go_enter Tryd.func17, Tryd.ntmps17
    go_wp2_with fail
    (with_reducible refine (mirK_any _ key (by omega) (by omega)).mono ?_)
    rintro e w1 ⟨rfl, rfl⟩
    obtain ⟨y, hy⟩ : ∃ y, y = mirK key := ⟨_, rfl⟩
    rw [← hy]
    have Hy := Lib.hid hy; clear hy
    go_wp2_with fail
    refine bodyPost_ret (v := .agg #[iv 10, iv y, iv 0]) (by simp [results, Tryd.results17, go_sem]) rfl ⟨?_, by rw [Hy.out]; rfl⟩
    first | exact Kp.trans (Kp.new _ _) (Kp.new _ _) | exact kp_three _ _ _ _ _ _
  · go_enter Tryd.func17, Tryd.ntmps17
    go_wp2_with fail
    (with_reducible refine (mirK_any _ key (by omega) (by omega)).mono ?_)
    rintro e w1 ⟨rfl, rfl⟩
    obtain ⟨y, hy⟩ : ∃ y, y = mirK key := ⟨_, rfl⟩
    rw [← hy]
    have Hy := Lib.hid hy; clear hy
    go_wp2_with fail
    refine bodyPost_ret (v := .agg #[iv 9, iv y, iv 0]) (by simp [results, Tryd.results17, go_sem]) rfl ⟨?_, by rw [Hy.out]; rfl⟩
    first | exact Kp.trans (Kp.new _ _) (Kp.new _ _) | exact kp_three _ _ _ _ _ _
set_option maxHeartbeats 4000000 in
theorem mir_draw (w : World) (op key wth : Int) (h1 : 0 ≤ key ∧ key ≤ 100) (ho : op = 3 ∨ op = 4) : Calls Tryd.prog 17 #[.agg #[iv op, iv key, iv wth]] w (MirPost w ⟨op, key, wth⟩) := by
  obtain ⟨k1, k2⟩ := h1
  have Hk := Lib.hid (show ∀ w, Calls Tryd.prog 32 #[iv key] w fun e w' => e = .returned (iv (mirK key)) ∧ w' = w from fun w => mirK_any w key (by omega) (by omega))
  rcases ho with rfl | rfl
  · go_enter Tryd.func17, Tryd.ntmps17
    go_wp2_with fail
    go_region_with ((go_at_call 32; refine (Hk.out _).mono ?_; rintro e w1 ⟨rfl, rfl⟩))
    all_goals
      go_wp2_with fail
      obtain ⟨y, hy⟩ : ∃ y, y = mirK key := ⟨_, rfl⟩
      rw [← hy]
      have Hy := Lib.hid hy; clear hy
      refine bodyPost_ret (v := .agg #[iv 3, iv y, iv 0]) (by simp [results, Tryd.results17, go_sem]) rfl ⟨?_, by rw [Hy.out]; rfl⟩
      first | exact Kp.trans (Kp.new _ _) (Kp.new _ _) | exact kp_three _ _ _ _ _ _ | exact Kp.trans (Kp.trans (Kp.new _ _) (Kp.new _ _)) (Kp.of_drewN _ 1) | exact Kp.trans (Kp.trans (Kp.new _ _) (Kp.new _ _)) ⟨rfl, rfl, rfl, Nat.le_refl _, fun _ _ => rfl⟩
  · go_enter Tryd.func17, Tryd.ntmps17
    go_wp2_with fail
    go_region_with ((go_at_call 32; refine (Hk.out _).mono ?_; rintro e w1 ⟨rfl, rfl⟩))
    all_goals
      go_wp2_with fail
      obtain ⟨y, hy⟩ : ∃ y, y = mirK key := ⟨_, rfl⟩
      rw [← hy]
      have Hy := Lib.hid hy; clear hy
      refine bodyPost_ret (v := .agg #[iv 4, iv y, iv 0]) (by simp [results, Tryd.results17, go_sem]) rfl ⟨?_, by rw [Hy.out]; rfl⟩
      first | exact Kp.trans (Kp.new _ _) (Kp.new _ _) | exact kp_three _ _ _ _ _ _ | exact Kp.trans (Kp.trans (Kp.new _ _) (Kp.new _ _)) (Kp.of_drewN _ 1) | exact Kp.trans (Kp.trans (Kp.new _ _) (Kp.new _ _)) ⟨rfl, rfl, rfl, Nat.le_refl _, fun _ _ => rfl⟩

theorem mir_any (w : World) (m : Mv) (h0 : 1 ≤ m.op ∧ m.op ≤ 14) (h1 : 0 ≤ m.key ∧ m.key ≤ 100) (h2 : 0 ≤ m.wth ∧ m.wth ≤ 100) : Calls Tryd.prog 17 #[.agg #[iv m.op, iv m.key, iv m.wth]] w (MirPost w m) := by
  obtain ⟨op, key, wth⟩ := m
  simp only at h0 h1 h2 ⊢
  rcases (show (op = 5 ∨ op = 6 ∨ op = 11 ∨ op = 1 ∨ op = 2 ∨ op = 12 ∨ op = 13 ∨ op = 14) ∨ (op = 7 ∨ op = 8 ∨ op = 9 ∨ op = 10) ∨ (op = 3 ∨ op = 4) by omega) with h | h | h
  · exact mir_plain w op key wth h1 h2 h
  · exact mir_call w op key wth h1 h
  · exact mir_draw w op key wth h1 h
end Go.Proofs.YtpemfmjplejdiaaDoor
