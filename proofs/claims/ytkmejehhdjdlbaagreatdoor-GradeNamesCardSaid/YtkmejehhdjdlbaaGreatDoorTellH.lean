/- What the next message of the answering side is worth. Condition: the teller's three cells lie there. -/
import Derived.Test.YtkmejehhdjdlbaaGreatDoorTellG
namespace Go.Proofs.YtkmejehhdjdlbaaGreatDoor
open Go.RowKit

set_option maxRecDepth 100000 in
set_option maxHeartbeats 40000000 in
theorem grade_1 (bt : Nat) (a b c d : Bool) (x y : Int) (hx : 0 ≤ x ∧ x ≤ 2) (hy : 0 ≤ y ∧ y ≤ 2) (w : World) (ht : TellAt w bt (flagsV a b c d) x y) :
    Calls Tryz.prog 48 #[.pointer (some ⟨bt, 0, none⟩), iv 1] w (GradePost w bt (flagsV a b c d) x y 1 (srcF b d) (dstF a c x)) := by
  have hmf : ∀ (fn : Fn) (first cap : Array Value) (w : World), (Instr.makeFunc fn first cap).run Tryz.prog w = .ok (.func fn first cap) w := fun _ _ _ _ => rfl
  have hlt := World.block_lt_of_cell? w _ ht.c0
  go_enter Tryz.func48, Tryz.ntmps48
  go_upto_region 6 with fail
  obtain ⟨w3, hw3⟩ : ∃ w3, w3 = ((w.alloc (.cells #[.pointer (some ⟨bt, 0, none⟩)] 74)).alloc (.cells #[iv 0, iv 0, iv 0] 81)).alloc (.cells #[iv 1, iv 0, iv 0] 81) := ⟨_, rfl⟩
  have hB := ((One1.new w (.pointer (some ⟨bt, 0, none⟩)) 74).kp (Kp.new _ (.cells #[iv 0, iv 0, iv 0] 81))).kp (Kp.new _ (.cells #[iv 1, iv 0, iv 0] 81))
  have hR := (Thr.new (w.alloc (.cells #[.pointer (some ⟨bt, 0, none⟩)] 74)) (iv 0) (iv 0) (iv 0) 81).kp (Kp.new _ (.cells #[iv 1, iv 0, iv 0] 81))
  have hG := Thr.new ((w.alloc (.cells #[.pointer (some ⟨bt, 0, none⟩)] 74)).alloc (.cells #[iv 0, iv 0, iv 0] 81)) (iv 1) (iv 0) (iv 0) 81
  have hk3 : Kp w w3 := by rw [hw3]; exact Kp.trans (Kp.trans (Kp.new _ _) (Kp.new _ _)) (Kp.new _ _)
  rw [← hw3] at hB hR hG
  simp only [World.size_alloc] at hR hG
  change Code.wp _ _ _ _ (((w.alloc (.cells #[.pointer (some ⟨bt, 0, none⟩)] 74)).alloc (.cells #[iv 0, iv 0, iv 0] 81)).alloc (.cells #[iv 1, iv 0, iv 0] 81))
  rw [← hw3]
  have hT := ht.kp hk3
  obtain ⟨b8, hb8⟩ : ∃ b8, b8 = w.heap.size + 1 + 1 := ⟨_, rfl⟩
  obtain ⟨b4, hb4⟩ : ∃ b4, b4 = w.heap.size + 1 := ⟨_, rfl⟩
  obtain ⟨b2, hb2⟩ : ∃ b2, b2 = w.heap.size := ⟨_, rfl⟩
  rw [← hb8] at hG ⊢
  rw [← hb4] at hR ⊢
  rw [← hb2] at hB ⊢
  have h28 : b2 < b4 ∧ b4 < b8 ∧ bt < b2 ∧ w.heap.size ≤ b2 := by simp only at hlt; omega
  obtain ⟨h24, h48, ht2, hw2⟩ := h28
  clear hb8 hb4 hb2 hw3 ht hlt
  have HC : ∀ (f : Int), f = 1 ∨ f = 2 ∨ f = 4 ∨ f = 8 → ∀ (w' : World), Fr [b8] w3 w' → Calls Tryz.prog 87 #[uv f, .pointer (some ⟨b2, 0, none⟩)] w' fun e w'' => e = .returned (.bool (flagAt a b c d f)) ∧ w' = w'' := fun f hf w' hk => has_any b2 bt a b c d f x y hf w' (hk.cell hB.c (by simp; omega)) (hT.fr hk (by simp; omega))
  have H1 := Lib.hid (HC 1 (by decide))
  have H2 := Lib.hid (HC 2 (by decide))
  have H4 := Lib.hid (HC 4 (by decide))
  have H8 := Lib.hid (HC 8 (by decide))
  rw [show flagAt a b c d 1 = a from rfl] at H1
  rw [show flagAt a b c d 2 = b from rfl] at H2
  rw [show flagAt a b c d 4 = c from rfl] at H4
  rw [show flagAt a b c d 8 = d from rfl] at H8
  obtain ⟨F, hF⟩ : ∃ F, F = flagsV a b c d := ⟨_, rfl⟩
  rw [← hF] at hT
  have HF := Lib.hid hF
  clear hF HC
  have HG := Lib.hid hG
  have hb0 := hB.c
  obtain ⟨y0, y1, y2, z0, z1, z2⟩ := hG
  cases b with
  | true =>
    cases a with
    | true =>
      cases c with
      | true =>
        go_wp2_with fail
        (with_reducible refine (H2.out _ (Fr.refl [b8] _)).mono ?_)
        rintro e w4 ⟨rfl, rfl⟩
        go_wp2_with fail
        (with_reducible refine (H1.out _ (Fr.set w3 ⟨b8, 1, none⟩ _)).mono ?_)
        rintro e w4 ⟨rfl, rfl⟩
        go_wp2_with fail
        (with_reducible refine (H4.out _ (Fr.set w3 ⟨b8, 1, none⟩ _)).mono ?_)
        rintro e w4 ⟨rfl, rfl⟩
        go_wp2_with fail
        (with_reducible refine (H1.out _ (Fr.set w3 ⟨b8, 1, none⟩ _)).mono ?_)
        rintro e w4 ⟨rfl, rfl⟩
        go_wp2_with fail
        (with_reducible refine (both_any bt 0 (by decide) F x y hx hy _ (hT.fr (Fr.set w3 ⟨b8, 1, none⟩ _) (by simp; omega))).mono ?_)
        rintro e w4 ⟨rfl, rfl⟩
        go_upto_region 16 with fail
        have hGw : Thr ((w3.setCell ⟨b8, 1, none⟩ (iv 2)).setCell ⟨b8, 2, none⟩ (iv (3 + x))) b8 (iv 1) (iv (2)) (iv (3 + x)) := ((HG.out.set1 (iv 2)).set2 (iv (3 + x)))
        have hFw : Fr [b8] w3 ((w3.setCell ⟨b8, 1, none⟩ (iv 2)).setCell ⟨b8, 2, none⟩ (iv (3 + x))) := (Fr.set w3 ⟨b8, 1, none⟩ _).trans (Fr.set _ ⟨b8, 2, none⟩ _)
        change Code.wp _ _ _ _ ((w3.setCell ⟨b8, 1, none⟩ (iv 2)).setCell ⟨b8, 2, none⟩ (iv (3 + x)))
        generalize (w3.setCell ⟨b8, 1, none⟩ (iv 2)).setCell ⟨b8, 2, none⟩ (iv (3 + x)) = w5 at hGw hFw ⊢
        clear y0 y1 y2 z0 z1 z2
        have hTw := hT.fr hFw (by simp; omega)
        have hBw := hB.fr hFw (by simp; omega)
        have hRw := hR.fr hFw (by simp; omega)
        refine region_tailq 14 (by kernel_rfl) (by kernel_rfl) ?_
        obtain ⟨wd, hwd⟩ : ∃ wd, wd = w5.drew := ⟨_, rfl⟩
        have hkd : Kp w5 wd := hwd ▸ (⟨rfl, rfl, rfl, Nat.le_refl _, fun _ _ => rfl⟩ : Kp w5 w5.drew)
        rw [← hwd]
        clear hwd
        have hG6 := hGw.kp hkd
        have hT6 := hTw.kp hkd
        have hB6 := hBw.kp hkd
        have hR6 := hRw.kp hkd
        have hset := Fr.set wd ⟨bt, 2, none⟩ (iv (max y (2)))
        have hF7 := Lib.hid ((((Fr.of_kp hk3).step hFw (fun j hj => .inr (by simp at hj; omega))).mono (by simp)).trans (((Fr.of_kp hkd).mono (by simp)).trans hset) : Fr [bt] w _)
        have hT7 := (hT6.thr.set2 (iv (max y (2)))).tell
        have hG7 := hG6.fr hset (by simp; omega)
        have hR7 := hR6.fr hset (by simp; omega)
        have hRf := ((hR7.set0 (iv 1)).set1 (iv (2))).set2 (iv (3 + x))
        have hFf := (((Fr.set _ ⟨b4, 0, none⟩ (iv 1)).trans (Fr.set _ ⟨b4, 1, none⟩ (iv (2)))).trans (Fr.set _ ⟨b4, 2, none⟩ (iv (3 + x))) : Fr [b4] (wd.setCell ⟨bt, 2, none⟩ (iv (max y (2)))) _)
        have HTf := Lib.hid (hT7.fr hFf (by simp; omega))
        have HFf := Lib.hid (hF7.out.step hFf (fun j hj => .inr (by simp at hj; omega)))
        obtain ⟨q0, q1, q2, _, _, _⟩ := hRf
        obtain ⟨r0, r1, r2, s0, s1, s2⟩ := hR6
        obtain ⟨t0, t1, t2, u0, u1, u2⟩ := hT6
        obtain ⟨g0, g1, g2, _, _, _⟩ := hG6
        obtain ⟨k0, _⟩ := hB6
        clear hb0 hT7 hG7 hR7 hGw hTw hBw hRw hT hB hR hkd hFw hset HG hFf hF7 hk3
        simp only [List.take_succ_cons, List.take_zero, List.drop_succ_cons, List.drop_zero]
        repeat (go_big_quiet_step (fail))
        refine wpQuiet_nil ?_
        go_wp2_with fail
        show bodyPost Tryz.prog Tryz.f48 (GradePost w bt _ x y 1 _ _) .ret _ _
        refine bodyPost_ret (v := .agg #[iv 1, iv (2), iv (3 + x)]) (by simp [results, Tryz.results48, go_sem, q0, q1, q2]) rfl ?_
        rw [HF.out] at HTf
        exact ⟨rfl, HFf.out, HTf.out⟩
      | false =>
        go_wp2_with fail
        (with_reducible refine (H2.out _ (Fr.refl [b8] _)).mono ?_)
        rintro e w4 ⟨rfl, rfl⟩
        go_wp2_with fail
        (with_reducible refine (H1.out _ (Fr.set w3 ⟨b8, 1, none⟩ _)).mono ?_)
        rintro e w4 ⟨rfl, rfl⟩
        go_wp2_with fail
        (with_reducible refine (H4.out _ (Fr.set w3 ⟨b8, 1, none⟩ _)).mono ?_)
        rintro e w4 ⟨rfl, rfl⟩
        go_upto_region 16 with fail
        have hGw : Thr ((w3.setCell ⟨b8, 1, none⟩ (iv 2)).setCell ⟨b8, 2, none⟩ (iv (1))) b8 (iv 1) (iv (2)) (iv (1)) := ((HG.out.set1 (iv 2)).set2 (iv (1)))
        have hFw : Fr [b8] w3 ((w3.setCell ⟨b8, 1, none⟩ (iv 2)).setCell ⟨b8, 2, none⟩ (iv (1))) := (Fr.set w3 ⟨b8, 1, none⟩ _).trans (Fr.set _ ⟨b8, 2, none⟩ _)
        change Code.wp _ _ _ _ ((w3.setCell ⟨b8, 1, none⟩ (iv 2)).setCell ⟨b8, 2, none⟩ (iv (1)))
        generalize (w3.setCell ⟨b8, 1, none⟩ (iv 2)).setCell ⟨b8, 2, none⟩ (iv (1)) = w5 at hGw hFw ⊢
        clear y0 y1 y2 z0 z1 z2
        have hTw := hT.fr hFw (by simp; omega)
        have hBw := hB.fr hFw (by simp; omega)
        have hRw := hR.fr hFw (by simp; omega)
        refine region_tailq 14 (by kernel_rfl) (by kernel_rfl) ?_
        obtain ⟨wd, hwd⟩ : ∃ wd, wd = w5.drew := ⟨_, rfl⟩
        have hkd : Kp w5 wd := hwd ▸ (⟨rfl, rfl, rfl, Nat.le_refl _, fun _ _ => rfl⟩ : Kp w5 w5.drew)
        rw [← hwd]
        clear hwd
        have hG6 := hGw.kp hkd
        have hT6 := hTw.kp hkd
        have hB6 := hBw.kp hkd
        have hR6 := hRw.kp hkd
        have hset := Fr.set wd ⟨bt, 2, none⟩ (iv (max y (2)))
        have hF7 := Lib.hid ((((Fr.of_kp hk3).step hFw (fun j hj => .inr (by simp at hj; omega))).mono (by simp)).trans (((Fr.of_kp hkd).mono (by simp)).trans hset) : Fr [bt] w _)
        have hT7 := (hT6.thr.set2 (iv (max y (2)))).tell
        have hG7 := hG6.fr hset (by simp; omega)
        have hR7 := hR6.fr hset (by simp; omega)
        have hRf := ((hR7.set0 (iv 1)).set1 (iv (2))).set2 (iv (1))
        have hFf := (((Fr.set _ ⟨b4, 0, none⟩ (iv 1)).trans (Fr.set _ ⟨b4, 1, none⟩ (iv (2)))).trans (Fr.set _ ⟨b4, 2, none⟩ (iv (1))) : Fr [b4] (wd.setCell ⟨bt, 2, none⟩ (iv (max y (2)))) _)
        have HTf := Lib.hid (hT7.fr hFf (by simp; omega))
        have HFf := Lib.hid (hF7.out.step hFf (fun j hj => .inr (by simp at hj; omega)))
        obtain ⟨q0, q1, q2, _, _, _⟩ := hRf
        obtain ⟨r0, r1, r2, s0, s1, s2⟩ := hR6
        obtain ⟨t0, t1, t2, u0, u1, u2⟩ := hT6
        obtain ⟨g0, g1, g2, _, _, _⟩ := hG6
        obtain ⟨k0, _⟩ := hB6
        clear hb0 hT7 hG7 hR7 hGw hTw hBw hRw hT hB hR hkd hFw hset HG hFf hF7 hk3
        simp only [List.take_succ_cons, List.take_zero, List.drop_succ_cons, List.drop_zero]
        repeat (go_big_quiet_step (fail))
        refine wpQuiet_nil ?_
        go_wp2_with fail
        show bodyPost Tryz.prog Tryz.f48 (GradePost w bt _ x y 1 _ _) .ret _ _
        refine bodyPost_ret (v := .agg #[iv 1, iv (2), iv (1)]) (by simp [results, Tryz.results48, go_sem, q0, q1, q2]) rfl ?_
        rw [HF.out] at HTf
        exact ⟨rfl, HFf.out, HTf.out⟩
    | false =>
      cases c with
      | true =>
        go_wp2_with fail
        (with_reducible refine (H2.out _ (Fr.refl [b8] _)).mono ?_)
        rintro e w4 ⟨rfl, rfl⟩
        go_wp2_with fail
        (with_reducible refine (H1.out _ (Fr.set w3 ⟨b8, 1, none⟩ _)).mono ?_)
        rintro e w4 ⟨rfl, rfl⟩
        go_wp2_with fail
        (with_reducible refine (H4.out _ (Fr.set w3 ⟨b8, 1, none⟩ _)).mono ?_)
        rintro e w4 ⟨rfl, rfl⟩
        go_wp2_with fail
        (with_reducible refine (H4.out _ (Fr.set w3 ⟨b8, 1, none⟩ _)).mono ?_)
        rintro e w4 ⟨rfl, rfl⟩
        go_wp2_with fail
        (with_reducible refine (H1.out _ (Fr.set w3 ⟨b8, 1, none⟩ _)).mono ?_)
        rintro e w4 ⟨rfl, rfl⟩
        go_upto_region 16 with fail
        have hGw : Thr ((w3.setCell ⟨b8, 1, none⟩ (iv 2)).setCell ⟨b8, 2, none⟩ (iv (2))) b8 (iv 1) (iv (2)) (iv (2)) := ((HG.out.set1 (iv 2)).set2 (iv (2)))
        have hFw : Fr [b8] w3 ((w3.setCell ⟨b8, 1, none⟩ (iv 2)).setCell ⟨b8, 2, none⟩ (iv (2))) := (Fr.set w3 ⟨b8, 1, none⟩ _).trans (Fr.set _ ⟨b8, 2, none⟩ _)
        change Code.wp _ _ _ _ ((w3.setCell ⟨b8, 1, none⟩ (iv 2)).setCell ⟨b8, 2, none⟩ (iv (2)))
        generalize (w3.setCell ⟨b8, 1, none⟩ (iv 2)).setCell ⟨b8, 2, none⟩ (iv (2)) = w5 at hGw hFw ⊢
        clear y0 y1 y2 z0 z1 z2
        have hTw := hT.fr hFw (by simp; omega)
        have hBw := hB.fr hFw (by simp; omega)
        have hRw := hR.fr hFw (by simp; omega)
        refine region_tailq 14 (by kernel_rfl) (by kernel_rfl) ?_
        obtain ⟨wd, hwd⟩ : ∃ wd, wd = w5.drew := ⟨_, rfl⟩
        have hkd : Kp w5 wd := hwd ▸ (⟨rfl, rfl, rfl, Nat.le_refl _, fun _ _ => rfl⟩ : Kp w5 w5.drew)
        rw [← hwd]
        clear hwd
        have hG6 := hGw.kp hkd
        have hT6 := hTw.kp hkd
        have hB6 := hBw.kp hkd
        have hR6 := hRw.kp hkd
        have hset := Fr.set wd ⟨bt, 2, none⟩ (iv (max y (2)))
        have hF7 := Lib.hid ((((Fr.of_kp hk3).step hFw (fun j hj => .inr (by simp at hj; omega))).mono (by simp)).trans (((Fr.of_kp hkd).mono (by simp)).trans hset) : Fr [bt] w _)
        have hT7 := (hT6.thr.set2 (iv (max y (2)))).tell
        have hG7 := hG6.fr hset (by simp; omega)
        have hR7 := hR6.fr hset (by simp; omega)
        have hRf := ((hR7.set0 (iv 1)).set1 (iv (2))).set2 (iv (2))
        have hFf := (((Fr.set _ ⟨b4, 0, none⟩ (iv 1)).trans (Fr.set _ ⟨b4, 1, none⟩ (iv (2)))).trans (Fr.set _ ⟨b4, 2, none⟩ (iv (2))) : Fr [b4] (wd.setCell ⟨bt, 2, none⟩ (iv (max y (2)))) _)
        have HTf := Lib.hid (hT7.fr hFf (by simp; omega))
        have HFf := Lib.hid (hF7.out.step hFf (fun j hj => .inr (by simp at hj; omega)))
        obtain ⟨q0, q1, q2, _, _, _⟩ := hRf
        obtain ⟨r0, r1, r2, s0, s1, s2⟩ := hR6
        obtain ⟨t0, t1, t2, u0, u1, u2⟩ := hT6
        obtain ⟨g0, g1, g2, _, _, _⟩ := hG6
        obtain ⟨k0, _⟩ := hB6
        clear hb0 hT7 hG7 hR7 hGw hTw hBw hRw hT hB hR hkd hFw hset HG hFf hF7 hk3
        simp only [List.take_succ_cons, List.take_zero, List.drop_succ_cons, List.drop_zero]
        repeat (go_big_quiet_step (fail))
        refine wpQuiet_nil ?_
        go_wp2_with fail
        show bodyPost Tryz.prog Tryz.f48 (GradePost w bt _ x y 1 _ _) .ret _ _
        refine bodyPost_ret (v := .agg #[iv 1, iv (2), iv (2)]) (by simp [results, Tryz.results48, go_sem, q0, q1, q2]) rfl ?_
        rw [HF.out] at HTf
        exact ⟨rfl, HFf.out, HTf.out⟩
      | false =>
        go_wp2_with fail
        (with_reducible refine (H2.out _ (Fr.refl [b8] _)).mono ?_)
        rintro e w4 ⟨rfl, rfl⟩
        go_wp2_with fail
        (with_reducible refine (H1.out _ (Fr.set w3 ⟨b8, 1, none⟩ _)).mono ?_)
        rintro e w4 ⟨rfl, rfl⟩
        go_wp2_with fail
        (with_reducible refine (H4.out _ (Fr.set w3 ⟨b8, 1, none⟩ _)).mono ?_)
        rintro e w4 ⟨rfl, rfl⟩
        go_upto_region 16 with fail
        have hGw : Thr (w3.setCell ⟨b8, 1, none⟩ (iv 2)) b8 (iv 1) (iv (2)) (iv (0)) := (HG.out.set1 (iv 2))
        have hFw : Fr [b8] w3 (w3.setCell ⟨b8, 1, none⟩ (iv 2)) := Fr.set w3 ⟨b8, 1, none⟩ _
        change Code.wp _ _ _ _ (w3.setCell ⟨b8, 1, none⟩ (iv 2))
        generalize w3.setCell ⟨b8, 1, none⟩ (iv 2) = w5 at hGw hFw ⊢
        clear y0 y1 y2 z0 z1 z2
        have hTw := hT.fr hFw (by simp; omega)
        have hBw := hB.fr hFw (by simp; omega)
        have hRw := hR.fr hFw (by simp; omega)
        refine region_tailq 14 (by kernel_rfl) (by kernel_rfl) ?_
        obtain ⟨wd, hwd⟩ : ∃ wd, wd = w5.drew := ⟨_, rfl⟩
        have hkd : Kp w5 wd := hwd ▸ (⟨rfl, rfl, rfl, Nat.le_refl _, fun _ _ => rfl⟩ : Kp w5 w5.drew)
        rw [← hwd]
        clear hwd
        have hG6 := hGw.kp hkd
        have hT6 := hTw.kp hkd
        have hB6 := hBw.kp hkd
        have hR6 := hRw.kp hkd
        have hset := Fr.set wd ⟨bt, 2, none⟩ (iv (max y (2)))
        have hF7 := Lib.hid ((((Fr.of_kp hk3).step hFw (fun j hj => .inr (by simp at hj; omega))).mono (by simp)).trans (((Fr.of_kp hkd).mono (by simp)).trans hset) : Fr [bt] w _)
        have hT7 := (hT6.thr.set2 (iv (max y (2)))).tell
        have hG7 := hG6.fr hset (by simp; omega)
        have hR7 := hR6.fr hset (by simp; omega)
        have hRf := ((hR7.set0 (iv 1)).set1 (iv (2))).set2 (iv (0))
        have hFf := (((Fr.set _ ⟨b4, 0, none⟩ (iv 1)).trans (Fr.set _ ⟨b4, 1, none⟩ (iv (2)))).trans (Fr.set _ ⟨b4, 2, none⟩ (iv (0))) : Fr [b4] (wd.setCell ⟨bt, 2, none⟩ (iv (max y (2)))) _)
        have HTf := Lib.hid (hT7.fr hFf (by simp; omega))
        have HFf := Lib.hid (hF7.out.step hFf (fun j hj => .inr (by simp at hj; omega)))
        obtain ⟨q0, q1, q2, _, _, _⟩ := hRf
        obtain ⟨r0, r1, r2, s0, s1, s2⟩ := hR6
        obtain ⟨t0, t1, t2, u0, u1, u2⟩ := hT6
        obtain ⟨g0, g1, g2, _, _, _⟩ := hG6
        obtain ⟨k0, _⟩ := hB6
        clear hb0 hT7 hG7 hR7 hGw hTw hBw hRw hT hB hR hkd hFw hset HG hFf hF7 hk3
        simp only [List.take_succ_cons, List.take_zero, List.drop_succ_cons, List.drop_zero]
        repeat (go_big_quiet_step (fail))
        refine wpQuiet_nil ?_
        go_wp2_with fail
        show bodyPost Tryz.prog Tryz.f48 (GradePost w bt _ x y 1 _ _) .ret _ _
        refine bodyPost_ret (v := .agg #[iv 1, iv (2), iv (0)]) (by simp [results, Tryz.results48, go_sem, q0, q1, q2]) rfl ?_
        rw [HF.out] at HTf
        exact ⟨rfl, HFf.out, HTf.out⟩
  | false =>
    cases d with
    | true =>
      cases a with
      | true =>
        cases c with
        | true =>
          go_wp2_with fail
          (with_reducible refine (H2.out _ (Fr.refl [b8] _)).mono ?_)
          rintro e w4 ⟨rfl, rfl⟩
          go_wp2_with fail
          (with_reducible refine (H8.out _ (Fr.refl [b8] _)).mono ?_)
          rintro e w4 ⟨rfl, rfl⟩
          go_wp2_with fail
          (with_reducible refine (H1.out _ (Fr.set w3 ⟨b8, 1, none⟩ _)).mono ?_)
          rintro e w4 ⟨rfl, rfl⟩
          go_wp2_with fail
          (with_reducible refine (H4.out _ (Fr.set w3 ⟨b8, 1, none⟩ _)).mono ?_)
          rintro e w4 ⟨rfl, rfl⟩
          go_wp2_with fail
          (with_reducible refine (H1.out _ (Fr.set w3 ⟨b8, 1, none⟩ _)).mono ?_)
          rintro e w4 ⟨rfl, rfl⟩
          go_wp2_with fail
          (with_reducible refine (both_any bt 0 (by decide) F x y hx hy _ (hT.fr (Fr.set w3 ⟨b8, 1, none⟩ _) (by simp; omega))).mono ?_)
          rintro e w4 ⟨rfl, rfl⟩
          go_upto_region 16 with fail
          have hGw : Thr ((w3.setCell ⟨b8, 1, none⟩ (iv 1)).setCell ⟨b8, 2, none⟩ (iv (3 + x))) b8 (iv 1) (iv (1)) (iv (3 + x)) := ((HG.out.set1 (iv 1)).set2 (iv (3 + x)))
          have hFw : Fr [b8] w3 ((w3.setCell ⟨b8, 1, none⟩ (iv 1)).setCell ⟨b8, 2, none⟩ (iv (3 + x))) := (Fr.set w3 ⟨b8, 1, none⟩ _).trans (Fr.set _ ⟨b8, 2, none⟩ _)
          change Code.wp _ _ _ _ ((w3.setCell ⟨b8, 1, none⟩ (iv 1)).setCell ⟨b8, 2, none⟩ (iv (3 + x)))
          generalize (w3.setCell ⟨b8, 1, none⟩ (iv 1)).setCell ⟨b8, 2, none⟩ (iv (3 + x)) = w5 at hGw hFw ⊢
          clear y0 y1 y2 z0 z1 z2
          have hTw := hT.fr hFw (by simp; omega)
          have hBw := hB.fr hFw (by simp; omega)
          have hRw := hR.fr hFw (by simp; omega)
          refine region_tailq 14 (by kernel_rfl) (by kernel_rfl) ?_
          obtain ⟨wd, hwd⟩ : ∃ wd, wd = w5.drew := ⟨_, rfl⟩
          have hkd : Kp w5 wd := hwd ▸ (⟨rfl, rfl, rfl, Nat.le_refl _, fun _ _ => rfl⟩ : Kp w5 w5.drew)
          rw [← hwd]
          clear hwd
          have hG6 := hGw.kp hkd
          have hT6 := hTw.kp hkd
          have hB6 := hBw.kp hkd
          have hR6 := hRw.kp hkd
          have hset := Fr.set wd ⟨bt, 2, none⟩ (iv (max y (1)))
          have hF7 := Lib.hid ((((Fr.of_kp hk3).step hFw (fun j hj => .inr (by simp at hj; omega))).mono (by simp)).trans (((Fr.of_kp hkd).mono (by simp)).trans hset) : Fr [bt] w _)
          have hT7 := (hT6.thr.set2 (iv (max y (1)))).tell
          have hG7 := hG6.fr hset (by simp; omega)
          have hR7 := hR6.fr hset (by simp; omega)
          have hRf := ((hR7.set0 (iv 1)).set1 (iv (1))).set2 (iv (3 + x))
          have hFf := (((Fr.set _ ⟨b4, 0, none⟩ (iv 1)).trans (Fr.set _ ⟨b4, 1, none⟩ (iv (1)))).trans (Fr.set _ ⟨b4, 2, none⟩ (iv (3 + x))) : Fr [b4] (wd.setCell ⟨bt, 2, none⟩ (iv (max y (1)))) _)
          have HTf := Lib.hid (hT7.fr hFf (by simp; omega))
          have HFf := Lib.hid (hF7.out.step hFf (fun j hj => .inr (by simp at hj; omega)))
          obtain ⟨q0, q1, q2, _, _, _⟩ := hRf
          obtain ⟨r0, r1, r2, s0, s1, s2⟩ := hR6
          obtain ⟨t0, t1, t2, u0, u1, u2⟩ := hT6
          obtain ⟨g0, g1, g2, _, _, _⟩ := hG6
          obtain ⟨k0, _⟩ := hB6
          clear hb0 hT7 hG7 hR7 hGw hTw hBw hRw hT hB hR hkd hFw hset HG hFf hF7 hk3
          simp only [List.take_succ_cons, List.take_zero, List.drop_succ_cons, List.drop_zero]
          repeat (go_big_quiet_step (fail))
          refine wpQuiet_nil ?_
          go_wp2_with fail
          show bodyPost Tryz.prog Tryz.f48 (GradePost w bt _ x y 1 _ _) .ret _ _
          refine bodyPost_ret (v := .agg #[iv 1, iv (1), iv (3 + x)]) (by simp [results, Tryz.results48, go_sem, q0, q1, q2]) rfl ?_
          rw [HF.out] at HTf
          exact ⟨rfl, HFf.out, HTf.out⟩
        | false =>
          go_wp2_with fail
          (with_reducible refine (H2.out _ (Fr.refl [b8] _)).mono ?_)
          rintro e w4 ⟨rfl, rfl⟩
          go_wp2_with fail
          (with_reducible refine (H8.out _ (Fr.refl [b8] _)).mono ?_)
          rintro e w4 ⟨rfl, rfl⟩
          go_wp2_with fail
          (with_reducible refine (H1.out _ (Fr.set w3 ⟨b8, 1, none⟩ _)).mono ?_)
          rintro e w4 ⟨rfl, rfl⟩
          go_wp2_with fail
          (with_reducible refine (H4.out _ (Fr.set w3 ⟨b8, 1, none⟩ _)).mono ?_)
          rintro e w4 ⟨rfl, rfl⟩
          go_upto_region 16 with fail
          have hGw : Thr ((w3.setCell ⟨b8, 1, none⟩ (iv 1)).setCell ⟨b8, 2, none⟩ (iv (1))) b8 (iv 1) (iv (1)) (iv (1)) := ((HG.out.set1 (iv 1)).set2 (iv (1)))
          have hFw : Fr [b8] w3 ((w3.setCell ⟨b8, 1, none⟩ (iv 1)).setCell ⟨b8, 2, none⟩ (iv (1))) := (Fr.set w3 ⟨b8, 1, none⟩ _).trans (Fr.set _ ⟨b8, 2, none⟩ _)
          change Code.wp _ _ _ _ ((w3.setCell ⟨b8, 1, none⟩ (iv 1)).setCell ⟨b8, 2, none⟩ (iv (1)))
          generalize (w3.setCell ⟨b8, 1, none⟩ (iv 1)).setCell ⟨b8, 2, none⟩ (iv (1)) = w5 at hGw hFw ⊢
          clear y0 y1 y2 z0 z1 z2
          have hTw := hT.fr hFw (by simp; omega)
          have hBw := hB.fr hFw (by simp; omega)
          have hRw := hR.fr hFw (by simp; omega)
          refine region_tailq 14 (by kernel_rfl) (by kernel_rfl) ?_
          obtain ⟨wd, hwd⟩ : ∃ wd, wd = w5.drew := ⟨_, rfl⟩
          have hkd : Kp w5 wd := hwd ▸ (⟨rfl, rfl, rfl, Nat.le_refl _, fun _ _ => rfl⟩ : Kp w5 w5.drew)
          rw [← hwd]
          clear hwd
          have hG6 := hGw.kp hkd
          have hT6 := hTw.kp hkd
          have hB6 := hBw.kp hkd
          have hR6 := hRw.kp hkd
          have hset := Fr.set wd ⟨bt, 2, none⟩ (iv (max y (1)))
          have hF7 := Lib.hid ((((Fr.of_kp hk3).step hFw (fun j hj => .inr (by simp at hj; omega))).mono (by simp)).trans (((Fr.of_kp hkd).mono (by simp)).trans hset) : Fr [bt] w _)
          have hT7 := (hT6.thr.set2 (iv (max y (1)))).tell
          have hG7 := hG6.fr hset (by simp; omega)
          have hR7 := hR6.fr hset (by simp; omega)
          have hRf := ((hR7.set0 (iv 1)).set1 (iv (1))).set2 (iv (1))
          have hFf := (((Fr.set _ ⟨b4, 0, none⟩ (iv 1)).trans (Fr.set _ ⟨b4, 1, none⟩ (iv (1)))).trans (Fr.set _ ⟨b4, 2, none⟩ (iv (1))) : Fr [b4] (wd.setCell ⟨bt, 2, none⟩ (iv (max y (1)))) _)
          have HTf := Lib.hid (hT7.fr hFf (by simp; omega))
          have HFf := Lib.hid (hF7.out.step hFf (fun j hj => .inr (by simp at hj; omega)))
          obtain ⟨q0, q1, q2, _, _, _⟩ := hRf
          obtain ⟨r0, r1, r2, s0, s1, s2⟩ := hR6
          obtain ⟨t0, t1, t2, u0, u1, u2⟩ := hT6
          obtain ⟨g0, g1, g2, _, _, _⟩ := hG6
          obtain ⟨k0, _⟩ := hB6
          clear hb0 hT7 hG7 hR7 hGw hTw hBw hRw hT hB hR hkd hFw hset HG hFf hF7 hk3
          simp only [List.take_succ_cons, List.take_zero, List.drop_succ_cons, List.drop_zero]
          repeat (go_big_quiet_step (fail))
          refine wpQuiet_nil ?_
          go_wp2_with fail
          show bodyPost Tryz.prog Tryz.f48 (GradePost w bt _ x y 1 _ _) .ret _ _
          refine bodyPost_ret (v := .agg #[iv 1, iv (1), iv (1)]) (by simp [results, Tryz.results48, go_sem, q0, q1, q2]) rfl ?_
          rw [HF.out] at HTf
          exact ⟨rfl, HFf.out, HTf.out⟩
      | false =>
        cases c with
        | true =>
          go_wp2_with fail
          (with_reducible refine (H2.out _ (Fr.refl [b8] _)).mono ?_)
          rintro e w4 ⟨rfl, rfl⟩
          go_wp2_with fail
          (with_reducible refine (H8.out _ (Fr.refl [b8] _)).mono ?_)
          rintro e w4 ⟨rfl, rfl⟩
          go_wp2_with fail
          (with_reducible refine (H1.out _ (Fr.set w3 ⟨b8, 1, none⟩ _)).mono ?_)
          rintro e w4 ⟨rfl, rfl⟩
          go_wp2_with fail
          (with_reducible refine (H4.out _ (Fr.set w3 ⟨b8, 1, none⟩ _)).mono ?_)
          rintro e w4 ⟨rfl, rfl⟩
          go_wp2_with fail
          (with_reducible refine (H4.out _ (Fr.set w3 ⟨b8, 1, none⟩ _)).mono ?_)
          rintro e w4 ⟨rfl, rfl⟩
          go_wp2_with fail
          (with_reducible refine (H1.out _ (Fr.set w3 ⟨b8, 1, none⟩ _)).mono ?_)
          rintro e w4 ⟨rfl, rfl⟩
          go_upto_region 16 with fail
          have hGw : Thr ((w3.setCell ⟨b8, 1, none⟩ (iv 1)).setCell ⟨b8, 2, none⟩ (iv (2))) b8 (iv 1) (iv (1)) (iv (2)) := ((HG.out.set1 (iv 1)).set2 (iv (2)))
          have hFw : Fr [b8] w3 ((w3.setCell ⟨b8, 1, none⟩ (iv 1)).setCell ⟨b8, 2, none⟩ (iv (2))) := (Fr.set w3 ⟨b8, 1, none⟩ _).trans (Fr.set _ ⟨b8, 2, none⟩ _)
          change Code.wp _ _ _ _ ((w3.setCell ⟨b8, 1, none⟩ (iv 1)).setCell ⟨b8, 2, none⟩ (iv (2)))
          generalize (w3.setCell ⟨b8, 1, none⟩ (iv 1)).setCell ⟨b8, 2, none⟩ (iv (2)) = w5 at hGw hFw ⊢
          clear y0 y1 y2 z0 z1 z2
          have hTw := hT.fr hFw (by simp; omega)
          have hBw := hB.fr hFw (by simp; omega)
          have hRw := hR.fr hFw (by simp; omega)
          refine region_tailq 14 (by kernel_rfl) (by kernel_rfl) ?_
          obtain ⟨wd, hwd⟩ : ∃ wd, wd = w5.drew := ⟨_, rfl⟩
          have hkd : Kp w5 wd := hwd ▸ (⟨rfl, rfl, rfl, Nat.le_refl _, fun _ _ => rfl⟩ : Kp w5 w5.drew)
          rw [← hwd]
          clear hwd
          have hG6 := hGw.kp hkd
          have hT6 := hTw.kp hkd
          have hB6 := hBw.kp hkd
          have hR6 := hRw.kp hkd
          have hset := Fr.set wd ⟨bt, 2, none⟩ (iv (max y (1)))
          have hF7 := Lib.hid ((((Fr.of_kp hk3).step hFw (fun j hj => .inr (by simp at hj; omega))).mono (by simp)).trans (((Fr.of_kp hkd).mono (by simp)).trans hset) : Fr [bt] w _)
          have hT7 := (hT6.thr.set2 (iv (max y (1)))).tell
          have hG7 := hG6.fr hset (by simp; omega)
          have hR7 := hR6.fr hset (by simp; omega)
          have hRf := ((hR7.set0 (iv 1)).set1 (iv (1))).set2 (iv (2))
          have hFf := (((Fr.set _ ⟨b4, 0, none⟩ (iv 1)).trans (Fr.set _ ⟨b4, 1, none⟩ (iv (1)))).trans (Fr.set _ ⟨b4, 2, none⟩ (iv (2))) : Fr [b4] (wd.setCell ⟨bt, 2, none⟩ (iv (max y (1)))) _)
          have HTf := Lib.hid (hT7.fr hFf (by simp; omega))
          have HFf := Lib.hid (hF7.out.step hFf (fun j hj => .inr (by simp at hj; omega)))
          obtain ⟨q0, q1, q2, _, _, _⟩ := hRf
          obtain ⟨r0, r1, r2, s0, s1, s2⟩ := hR6
          obtain ⟨t0, t1, t2, u0, u1, u2⟩ := hT6
          obtain ⟨g0, g1, g2, _, _, _⟩ := hG6
          obtain ⟨k0, _⟩ := hB6
          clear hb0 hT7 hG7 hR7 hGw hTw hBw hRw hT hB hR hkd hFw hset HG hFf hF7 hk3
          simp only [List.take_succ_cons, List.take_zero, List.drop_succ_cons, List.drop_zero]
          repeat (go_big_quiet_step (fail))
          refine wpQuiet_nil ?_
          go_wp2_with fail
          show bodyPost Tryz.prog Tryz.f48 (GradePost w bt _ x y 1 _ _) .ret _ _
          refine bodyPost_ret (v := .agg #[iv 1, iv (1), iv (2)]) (by simp [results, Tryz.results48, go_sem, q0, q1, q2]) rfl ?_
          rw [HF.out] at HTf
          exact ⟨rfl, HFf.out, HTf.out⟩
        | false =>
          go_wp2_with fail
          (with_reducible refine (H2.out _ (Fr.refl [b8] _)).mono ?_)
          rintro e w4 ⟨rfl, rfl⟩
          go_wp2_with fail
          (with_reducible refine (H8.out _ (Fr.refl [b8] _)).mono ?_)
          rintro e w4 ⟨rfl, rfl⟩
          go_wp2_with fail
          (with_reducible refine (H1.out _ (Fr.set w3 ⟨b8, 1, none⟩ _)).mono ?_)
          rintro e w4 ⟨rfl, rfl⟩
          go_wp2_with fail
          (with_reducible refine (H4.out _ (Fr.set w3 ⟨b8, 1, none⟩ _)).mono ?_)
          rintro e w4 ⟨rfl, rfl⟩
          go_upto_region 16 with fail
          have hGw : Thr (w3.setCell ⟨b8, 1, none⟩ (iv 1)) b8 (iv 1) (iv (1)) (iv (0)) := (HG.out.set1 (iv 1))
          have hFw : Fr [b8] w3 (w3.setCell ⟨b8, 1, none⟩ (iv 1)) := Fr.set w3 ⟨b8, 1, none⟩ _
          change Code.wp _ _ _ _ (w3.setCell ⟨b8, 1, none⟩ (iv 1))
          generalize w3.setCell ⟨b8, 1, none⟩ (iv 1) = w5 at hGw hFw ⊢
          clear y0 y1 y2 z0 z1 z2
          have hTw := hT.fr hFw (by simp; omega)
          have hBw := hB.fr hFw (by simp; omega)
          have hRw := hR.fr hFw (by simp; omega)
          refine region_tailq 14 (by kernel_rfl) (by kernel_rfl) ?_
          obtain ⟨wd, hwd⟩ : ∃ wd, wd = w5.drew := ⟨_, rfl⟩
          have hkd : Kp w5 wd := hwd ▸ (⟨rfl, rfl, rfl, Nat.le_refl _, fun _ _ => rfl⟩ : Kp w5 w5.drew)
          rw [← hwd]
          clear hwd
          have hG6 := hGw.kp hkd
          have hT6 := hTw.kp hkd
          have hB6 := hBw.kp hkd
          have hR6 := hRw.kp hkd
          have hset := Fr.set wd ⟨bt, 2, none⟩ (iv (max y (1)))
          have hF7 := Lib.hid ((((Fr.of_kp hk3).step hFw (fun j hj => .inr (by simp at hj; omega))).mono (by simp)).trans (((Fr.of_kp hkd).mono (by simp)).trans hset) : Fr [bt] w _)
          have hT7 := (hT6.thr.set2 (iv (max y (1)))).tell
          have hG7 := hG6.fr hset (by simp; omega)
          have hR7 := hR6.fr hset (by simp; omega)
          have hRf := ((hR7.set0 (iv 1)).set1 (iv (1))).set2 (iv (0))
          have hFf := (((Fr.set _ ⟨b4, 0, none⟩ (iv 1)).trans (Fr.set _ ⟨b4, 1, none⟩ (iv (1)))).trans (Fr.set _ ⟨b4, 2, none⟩ (iv (0))) : Fr [b4] (wd.setCell ⟨bt, 2, none⟩ (iv (max y (1)))) _)
          have HTf := Lib.hid (hT7.fr hFf (by simp; omega))
          have HFf := Lib.hid (hF7.out.step hFf (fun j hj => .inr (by simp at hj; omega)))
          obtain ⟨q0, q1, q2, _, _, _⟩ := hRf
          obtain ⟨r0, r1, r2, s0, s1, s2⟩ := hR6
          obtain ⟨t0, t1, t2, u0, u1, u2⟩ := hT6
          obtain ⟨g0, g1, g2, _, _, _⟩ := hG6
          obtain ⟨k0, _⟩ := hB6
          clear hb0 hT7 hG7 hR7 hGw hTw hBw hRw hT hB hR hkd hFw hset HG hFf hF7 hk3
          simp only [List.take_succ_cons, List.take_zero, List.drop_succ_cons, List.drop_zero]
          repeat (go_big_quiet_step (fail))
          refine wpQuiet_nil ?_
          go_wp2_with fail
          show bodyPost Tryz.prog Tryz.f48 (GradePost w bt _ x y 1 _ _) .ret _ _
          refine bodyPost_ret (v := .agg #[iv 1, iv (1), iv (0)]) (by simp [results, Tryz.results48, go_sem, q0, q1, q2]) rfl ?_
          rw [HF.out] at HTf
          exact ⟨rfl, HFf.out, HTf.out⟩
    | false =>
      cases a with
      | true =>
        cases c with
        | true =>
          go_wp2_with fail
          (with_reducible refine (H2.out _ (Fr.refl [b8] _)).mono ?_)
          rintro e w4 ⟨rfl, rfl⟩
          go_wp2_with fail
          (with_reducible refine (H8.out _ (Fr.refl [b8] _)).mono ?_)
          rintro e w4 ⟨rfl, rfl⟩
          go_wp2_with fail
          (with_reducible refine (H1.out _ (Fr.refl [b8] _)).mono ?_)
          rintro e w4 ⟨rfl, rfl⟩
          go_wp2_with fail
          (with_reducible refine (H4.out _ (Fr.refl [b8] _)).mono ?_)
          rintro e w4 ⟨rfl, rfl⟩
          go_wp2_with fail
          (with_reducible refine (H1.out _ (Fr.refl [b8] _)).mono ?_)
          rintro e w4 ⟨rfl, rfl⟩
          go_wp2_with fail
          (with_reducible refine (both_any bt 0 (by decide) F x y hx hy _ (hT.fr (Fr.refl [b8] _) (by simp; omega))).mono ?_)
          rintro e w4 ⟨rfl, rfl⟩
          go_upto_region 16 with fail
          have hGw : Thr ((w3).setCell ⟨b8, 2, none⟩ (iv (3 + x))) b8 (iv 1) (iv (0)) (iv (3 + x)) := (HG.out.set2 (iv (3 + x)))
          have hFw : Fr [b8] w3 ((w3).setCell ⟨b8, 2, none⟩ (iv (3 + x))) := Fr.set w3 ⟨b8, 2, none⟩ _
          change Code.wp _ _ _ _ ((w3).setCell ⟨b8, 2, none⟩ (iv (3 + x)))
          generalize (w3).setCell ⟨b8, 2, none⟩ (iv (3 + x)) = w5 at hGw hFw ⊢
          clear y0 y1 y2 z0 z1 z2
          have hTw := hT.fr hFw (by simp; omega)
          have hBw := hB.fr hFw (by simp; omega)
          have hRw := hR.fr hFw (by simp; omega)
          refine region_tailq 14 (by kernel_rfl) (by kernel_rfl) ?_
          obtain ⟨wd, hwd⟩ : ∃ wd, wd = w5.drew := ⟨_, rfl⟩
          have hkd : Kp w5 wd := hwd ▸ (⟨rfl, rfl, rfl, Nat.le_refl _, fun _ _ => rfl⟩ : Kp w5 w5.drew)
          rw [← hwd]
          clear hwd
          have hG6 := hGw.kp hkd
          have hT6 := hTw.kp hkd
          have hB6 := hBw.kp hkd
          have hR6 := hRw.kp hkd
          have hset := Fr.set wd ⟨bt, 2, none⟩ (iv (max y (0)))
          have hF7 := Lib.hid ((((Fr.of_kp hk3).step hFw (fun j hj => .inr (by simp at hj; omega))).mono (by simp)).trans (((Fr.of_kp hkd).mono (by simp)).trans hset) : Fr [bt] w _)
          have hT7 := (hT6.thr.set2 (iv (max y (0)))).tell
          have hG7 := hG6.fr hset (by simp; omega)
          have hR7 := hR6.fr hset (by simp; omega)
          have hRf := ((hR7.set0 (iv 1)).set1 (iv (0))).set2 (iv (3 + x))
          have hFf := (((Fr.set _ ⟨b4, 0, none⟩ (iv 1)).trans (Fr.set _ ⟨b4, 1, none⟩ (iv (0)))).trans (Fr.set _ ⟨b4, 2, none⟩ (iv (3 + x))) : Fr [b4] (wd.setCell ⟨bt, 2, none⟩ (iv (max y (0)))) _)
          have HTf := Lib.hid (hT7.fr hFf (by simp; omega))
          have HFf := Lib.hid (hF7.out.step hFf (fun j hj => .inr (by simp at hj; omega)))
          obtain ⟨q0, q1, q2, _, _, _⟩ := hRf
          obtain ⟨r0, r1, r2, s0, s1, s2⟩ := hR6
          obtain ⟨t0, t1, t2, u0, u1, u2⟩ := hT6
          obtain ⟨g0, g1, g2, _, _, _⟩ := hG6
          obtain ⟨k0, _⟩ := hB6
          clear hb0 hT7 hG7 hR7 hGw hTw hBw hRw hT hB hR hkd hFw hset HG hFf hF7 hk3
          simp only [List.take_succ_cons, List.take_zero, List.drop_succ_cons, List.drop_zero]
          repeat (go_big_quiet_step (fail))
          refine wpQuiet_nil ?_
          go_wp2_with fail
          show bodyPost Tryz.prog Tryz.f48 (GradePost w bt _ x y 1 _ _) .ret _ _
          refine bodyPost_ret (v := .agg #[iv 1, iv (0), iv (3 + x)]) (by simp [results, Tryz.results48, go_sem, q0, q1, q2]) rfl ?_
          rw [HF.out] at HTf
          exact ⟨rfl, HFf.out, HTf.out⟩
        | false =>
          go_wp2_with fail
          (with_reducible refine (H2.out _ (Fr.refl [b8] _)).mono ?_)
          rintro e w4 ⟨rfl, rfl⟩
          go_wp2_with fail
          (with_reducible refine (H8.out _ (Fr.refl [b8] _)).mono ?_)
          rintro e w4 ⟨rfl, rfl⟩
          go_wp2_with fail
          (with_reducible refine (H1.out _ (Fr.refl [b8] _)).mono ?_)
          rintro e w4 ⟨rfl, rfl⟩
          go_wp2_with fail
          (with_reducible refine (H4.out _ (Fr.refl [b8] _)).mono ?_)
          rintro e w4 ⟨rfl, rfl⟩
          go_upto_region 16 with fail
          have hGw : Thr ((w3).setCell ⟨b8, 2, none⟩ (iv (1))) b8 (iv 1) (iv (0)) (iv (1)) := (HG.out.set2 (iv (1)))
          have hFw : Fr [b8] w3 ((w3).setCell ⟨b8, 2, none⟩ (iv (1))) := Fr.set w3 ⟨b8, 2, none⟩ _
          change Code.wp _ _ _ _ ((w3).setCell ⟨b8, 2, none⟩ (iv (1)))
          generalize (w3).setCell ⟨b8, 2, none⟩ (iv (1)) = w5 at hGw hFw ⊢
          clear y0 y1 y2 z0 z1 z2
          have hTw := hT.fr hFw (by simp; omega)
          have hBw := hB.fr hFw (by simp; omega)
          have hRw := hR.fr hFw (by simp; omega)
          refine region_tailq 14 (by kernel_rfl) (by kernel_rfl) ?_
          obtain ⟨wd, hwd⟩ : ∃ wd, wd = w5.drew := ⟨_, rfl⟩
          have hkd : Kp w5 wd := hwd ▸ (⟨rfl, rfl, rfl, Nat.le_refl _, fun _ _ => rfl⟩ : Kp w5 w5.drew)
          rw [← hwd]
          clear hwd
          have hG6 := hGw.kp hkd
          have hT6 := hTw.kp hkd
          have hB6 := hBw.kp hkd
          have hR6 := hRw.kp hkd
          have hset := Fr.set wd ⟨bt, 2, none⟩ (iv (max y (0)))
          have hF7 := Lib.hid ((((Fr.of_kp hk3).step hFw (fun j hj => .inr (by simp at hj; omega))).mono (by simp)).trans (((Fr.of_kp hkd).mono (by simp)).trans hset) : Fr [bt] w _)
          have hT7 := (hT6.thr.set2 (iv (max y (0)))).tell
          have hG7 := hG6.fr hset (by simp; omega)
          have hR7 := hR6.fr hset (by simp; omega)
          have hRf := ((hR7.set0 (iv 1)).set1 (iv (0))).set2 (iv (1))
          have hFf := (((Fr.set _ ⟨b4, 0, none⟩ (iv 1)).trans (Fr.set _ ⟨b4, 1, none⟩ (iv (0)))).trans (Fr.set _ ⟨b4, 2, none⟩ (iv (1))) : Fr [b4] (wd.setCell ⟨bt, 2, none⟩ (iv (max y (0)))) _)
          have HTf := Lib.hid (hT7.fr hFf (by simp; omega))
          have HFf := Lib.hid (hF7.out.step hFf (fun j hj => .inr (by simp at hj; omega)))
          obtain ⟨q0, q1, q2, _, _, _⟩ := hRf
          obtain ⟨r0, r1, r2, s0, s1, s2⟩ := hR6
          obtain ⟨t0, t1, t2, u0, u1, u2⟩ := hT6
          obtain ⟨g0, g1, g2, _, _, _⟩ := hG6
          obtain ⟨k0, _⟩ := hB6
          clear hb0 hT7 hG7 hR7 hGw hTw hBw hRw hT hB hR hkd hFw hset HG hFf hF7 hk3
          simp only [List.take_succ_cons, List.take_zero, List.drop_succ_cons, List.drop_zero]
          repeat (go_big_quiet_step (fail))
          refine wpQuiet_nil ?_
          go_wp2_with fail
          show bodyPost Tryz.prog Tryz.f48 (GradePost w bt _ x y 1 _ _) .ret _ _
          refine bodyPost_ret (v := .agg #[iv 1, iv (0), iv (1)]) (by simp [results, Tryz.results48, go_sem, q0, q1, q2]) rfl ?_
          rw [HF.out] at HTf
          exact ⟨rfl, HFf.out, HTf.out⟩
      | false =>
        cases c with
        | true =>
          go_wp2_with fail
          (with_reducible refine (H2.out _ (Fr.refl [b8] _)).mono ?_)
          rintro e w4 ⟨rfl, rfl⟩
          go_wp2_with fail
          (with_reducible refine (H8.out _ (Fr.refl [b8] _)).mono ?_)
          rintro e w4 ⟨rfl, rfl⟩
          go_wp2_with fail
          (with_reducible refine (H1.out _ (Fr.refl [b8] _)).mono ?_)
          rintro e w4 ⟨rfl, rfl⟩
          go_wp2_with fail
          (with_reducible refine (H4.out _ (Fr.refl [b8] _)).mono ?_)
          rintro e w4 ⟨rfl, rfl⟩
          go_wp2_with fail
          (with_reducible refine (H4.out _ (Fr.refl [b8] _)).mono ?_)
          rintro e w4 ⟨rfl, rfl⟩
          go_wp2_with fail
          (with_reducible refine (H1.out _ (Fr.refl [b8] _)).mono ?_)
          rintro e w4 ⟨rfl, rfl⟩
          go_upto_region 16 with fail
          have hGw : Thr ((w3).setCell ⟨b8, 2, none⟩ (iv (2))) b8 (iv 1) (iv (0)) (iv (2)) := (HG.out.set2 (iv (2)))
          have hFw : Fr [b8] w3 ((w3).setCell ⟨b8, 2, none⟩ (iv (2))) := Fr.set w3 ⟨b8, 2, none⟩ _
          change Code.wp _ _ _ _ ((w3).setCell ⟨b8, 2, none⟩ (iv (2)))
          generalize (w3).setCell ⟨b8, 2, none⟩ (iv (2)) = w5 at hGw hFw ⊢
          clear y0 y1 y2 z0 z1 z2
          have hTw := hT.fr hFw (by simp; omega)
          have hBw := hB.fr hFw (by simp; omega)
          have hRw := hR.fr hFw (by simp; omega)
          refine region_tailq 14 (by kernel_rfl) (by kernel_rfl) ?_
          obtain ⟨wd, hwd⟩ : ∃ wd, wd = w5.drew := ⟨_, rfl⟩
          have hkd : Kp w5 wd := hwd ▸ (⟨rfl, rfl, rfl, Nat.le_refl _, fun _ _ => rfl⟩ : Kp w5 w5.drew)
          rw [← hwd]
          clear hwd
          have hG6 := hGw.kp hkd
          have hT6 := hTw.kp hkd
          have hB6 := hBw.kp hkd
          have hR6 := hRw.kp hkd
          have hset := Fr.set wd ⟨bt, 2, none⟩ (iv (max y (0)))
          have hF7 := Lib.hid ((((Fr.of_kp hk3).step hFw (fun j hj => .inr (by simp at hj; omega))).mono (by simp)).trans (((Fr.of_kp hkd).mono (by simp)).trans hset) : Fr [bt] w _)
          have hT7 := (hT6.thr.set2 (iv (max y (0)))).tell
          have hG7 := hG6.fr hset (by simp; omega)
          have hR7 := hR6.fr hset (by simp; omega)
          have hRf := ((hR7.set0 (iv 1)).set1 (iv (0))).set2 (iv (2))
          have hFf := (((Fr.set _ ⟨b4, 0, none⟩ (iv 1)).trans (Fr.set _ ⟨b4, 1, none⟩ (iv (0)))).trans (Fr.set _ ⟨b4, 2, none⟩ (iv (2))) : Fr [b4] (wd.setCell ⟨bt, 2, none⟩ (iv (max y (0)))) _)
          have HTf := Lib.hid (hT7.fr hFf (by simp; omega))
          have HFf := Lib.hid (hF7.out.step hFf (fun j hj => .inr (by simp at hj; omega)))
          obtain ⟨q0, q1, q2, _, _, _⟩ := hRf
          obtain ⟨r0, r1, r2, s0, s1, s2⟩ := hR6
          obtain ⟨t0, t1, t2, u0, u1, u2⟩ := hT6
          obtain ⟨g0, g1, g2, _, _, _⟩ := hG6
          obtain ⟨k0, _⟩ := hB6
          clear hb0 hT7 hG7 hR7 hGw hTw hBw hRw hT hB hR hkd hFw hset HG hFf hF7 hk3
          simp only [List.take_succ_cons, List.take_zero, List.drop_succ_cons, List.drop_zero]
          repeat (go_big_quiet_step (fail))
          refine wpQuiet_nil ?_
          go_wp2_with fail
          show bodyPost Tryz.prog Tryz.f48 (GradePost w bt _ x y 1 _ _) .ret _ _
          refine bodyPost_ret (v := .agg #[iv 1, iv (0), iv (2)]) (by simp [results, Tryz.results48, go_sem, q0, q1, q2]) rfl ?_
          rw [HF.out] at HTf
          exact ⟨rfl, HFf.out, HTf.out⟩
        | false =>
          go_wp2_with fail
          (with_reducible refine (H2.out _ (Fr.refl [b8] _)).mono ?_)
          rintro e w4 ⟨rfl, rfl⟩
          go_wp2_with fail
          (with_reducible refine (H8.out _ (Fr.refl [b8] _)).mono ?_)
          rintro e w4 ⟨rfl, rfl⟩
          go_wp2_with fail
          (with_reducible refine (H1.out _ (Fr.refl [b8] _)).mono ?_)
          rintro e w4 ⟨rfl, rfl⟩
          go_wp2_with fail
          (with_reducible refine (H4.out _ (Fr.refl [b8] _)).mono ?_)
          rintro e w4 ⟨rfl, rfl⟩
          go_upto_region 16 with fail
          have hGw : Thr (w3) b8 (iv 1) (iv (0)) (iv (0)) := HG.out
          have hFw : Fr [b8] w3 (w3) := Fr.refl [b8] _
          change Code.wp _ _ _ _ (w3)
          clear y0 y1 y2 z0 z1 z2
          have hTw := hT.fr hFw (by simp; omega)
          have hBw := hB.fr hFw (by simp; omega)
          have hRw := hR.fr hFw (by simp; omega)
          refine region_tailq 14 (by kernel_rfl) (by kernel_rfl) ?_
          obtain ⟨wd, hwd⟩ : ∃ wd, wd = w3.drew := ⟨_, rfl⟩
          have hkd : Kp w3 wd := hwd ▸ (⟨rfl, rfl, rfl, Nat.le_refl _, fun _ _ => rfl⟩ : Kp w3 w3.drew)
          rw [← hwd]
          clear hwd
          have hG6 := hGw.kp hkd
          have hT6 := hTw.kp hkd
          have hB6 := hBw.kp hkd
          have hR6 := hRw.kp hkd
          have hset := Fr.set wd ⟨bt, 2, none⟩ (iv (max y (0)))
          have hF7 := Lib.hid ((((Fr.of_kp hk3).step hFw (fun j hj => .inr (by simp at hj; omega))).mono (by simp)).trans (((Fr.of_kp hkd).mono (by simp)).trans hset) : Fr [bt] w _)
          have hT7 := (hT6.thr.set2 (iv (max y (0)))).tell
          have hG7 := hG6.fr hset (by simp; omega)
          have hR7 := hR6.fr hset (by simp; omega)
          have hRf := ((hR7.set0 (iv 1)).set1 (iv (0))).set2 (iv (0))
          have hFf := (((Fr.set _ ⟨b4, 0, none⟩ (iv 1)).trans (Fr.set _ ⟨b4, 1, none⟩ (iv (0)))).trans (Fr.set _ ⟨b4, 2, none⟩ (iv (0))) : Fr [b4] (wd.setCell ⟨bt, 2, none⟩ (iv (max y (0)))) _)
          have HTf := Lib.hid (hT7.fr hFf (by simp; omega))
          have HFf := Lib.hid (hF7.out.step hFf (fun j hj => .inr (by simp at hj; omega)))
          obtain ⟨q0, q1, q2, _, _, _⟩ := hRf
          obtain ⟨r0, r1, r2, s0, s1, s2⟩ := hR6
          obtain ⟨t0, t1, t2, u0, u1, u2⟩ := hT6
          obtain ⟨g0, g1, g2, _, _, _⟩ := hG6
          obtain ⟨k0, _⟩ := hB6
          clear hb0 hT7 hG7 hR7 hGw hTw hBw hRw hT hB hR hkd hFw hset HG hFf hF7 hk3
          simp only [List.take_succ_cons, List.take_zero, List.drop_succ_cons, List.drop_zero]
          repeat (go_big_quiet_step (fail))
          refine wpQuiet_nil ?_
          go_wp2_with fail
          show bodyPost Tryz.prog Tryz.f48 (GradePost w bt _ x y 1 _ _) .ret _ _
          refine bodyPost_ret (v := .agg #[iv 1, iv (0), iv (0)]) (by simp [results, Tryz.results48, go_sem, q0, q1, q2]) rfl ?_
          rw [HF.out] at HTf
          exact ⟨rfl, HFf.out, HTf.out⟩
end Go.Proofs.YtkmejehhdjdlbaaGreatDoor
