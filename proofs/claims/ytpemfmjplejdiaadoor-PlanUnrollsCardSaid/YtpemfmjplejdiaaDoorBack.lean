/- Whether a pattern that was lent is as it was, and the room behind it. Conditions: it lies there with its room (Rm, LnR), the other one too (Is, Lns). -/
import Derived.Test.YtpemfmjplejdiaaDoorLentA
import Derived.Test.YtpemfmjplejdiaaDoorRefMem
namespace Go.Proofs.YtpemfmjplejdiaaDoor
open Go.RowKit

set_option maxRecDepth 100000 in
set_option maxHeartbeats 4000000 in
theorem back_any (w : World) (B : Nat) (nm nm' : ByteArray) (a0 a1 al e0 e1 el : Option Addr) (n0 c0 n1 c1 nl cl f0 f1 fl : Nat) (b0 b1 : List Int) (ls : List Ln) (h0 : Rm B w a0 n0 c0 b0) (h1 : Rm B w a1 n1 c1 b1) (hl : LnR B w al nl cl ls) (g0 : Is w e0 n0 b0) (g1 : Is w e1 n1 b1) (gl : Lns w el nl ls) (s0 : n0 ≤ 1000) (s1 : n1 ≤ 1000) :
    Calls Tryd.prog 16 #[.agg #[.string nm, .slice a0 n0 c0, .slice a1 n1 c1, .slice al nl cl], .agg #[.string nm', .slice e0 n0 f0, .slice e1 n1 f1, .slice el nl fl]] w fun e w' => e = .returned (.bool true) ∧ Kp w w' := by
  have hk1 := Kp.new w (.cells #[.string nm, .slice a0 n0 c0, .slice a1 n1 c1, .slice al nl cl] 26)
  have hB1 := Bx.new w nm a0 a1 al n0 c0 n1 c1 nl cl
  have hk2 := Kp.new (w.alloc (.cells #[.string nm, .slice a0 n0 c0, .slice a1 n1 c1, .slice al nl cl] 26)) (.cells #[.string nm', .slice e0 n0 f0, .slice e1 n1 f1, .slice el nl fl] 26)
  have hB2 := Bx.new (w.alloc (.cells #[.string nm, .slice a0 n0 c0, .slice a1 n1 c1, .slice al nl cl] 26)) nm' e0 e1 el n0 f0 n1 f1 nl fl
  replace hB1 := hB1.kp hk2
  have hsz : (w.alloc (.cells #[.string nm, .slice a0 n0 c0, .slice a1 n1 c1, .slice al nl cl] 26)).heap.size = w.heap.size + 1 := by simp
  rw [hsz] at hB2
  obtain ⟨wb, hwb⟩ : ∃ wb, wb = (w.alloc (.cells #[.string nm, .slice a0 n0 c0, .slice a1 n1 c1, .slice al nl cl] 26)).alloc (.cells #[.string nm', .slice e0 n0 f0, .slice e1 n1 f1, .slice el nl fl] 26) := ⟨_, rfl⟩
  rw [← hwb] at hB1 hB2 hk2
  have hkb := Kp.trans hk1 hk2
  obtain ⟨bx, hbx⟩ : ∃ bx, bx = w.heap.size := ⟨_, rfl⟩
  rw [← hbx] at hB1 hB2
  replace h0 := h0.kp hkb
  replace h1 := h1.kp hkb
  replace hl := hl.kp hkb
  replace g0 := hkb.is g0
  replace g1 := hkb.is g1
  replace gl := hkb.lns gl
  have HS := Lib.hid (fun w' (k : Kp wb w') => same_any w' nm nm' a0 a1 al e0 e1 el n0 c0 n1 c1 nl cl n0 f0 n1 f1 nl fl b0 b1 ls b0 b1 ls (k.is h0.1) (k.is h1.1) (k.lns hl.lns) (k.is g0) (k.is g1) (k.lns gl))
  have Hkb := Lib.hid hkb
  have HB1 := Lib.hid hB1
  have HB2 := Lib.hid hB2
  obtain ⟨q0, q1, q2, q3⟩ := hB1
  clear g0 g1 gl hkb hk1 hk2 hB2
  obtain ⟨-, r0, ga, rfl, -, m0⟩ := h0
  obtain ⟨-, r1, gb, rfl, -, m1⟩ := h1
  obtain ⟨hll, sl, rl, gc, rfl, -, ml, hls⟩ := hl
  have Hls := Lib.hid hls; clear hls
  have Hll := Lib.hid hll; clear hll
  go_enter Tryd.func16, Tryd.ntmps16
  go_upto_region 1 with fail
  rw [← hwb, ← hbx]
  clear hwb hbx hsz
  go_wp2_with fail
  go_loopw [5] (fun i wr => ∃ k : Nat, k ≤ 2 ∧ i = .int .i64 (k : Nat) ∧ wr = wb) (fun i _ => 2 - (intOf i).toNat)
  case atStart => exact ⟨0, by omega, rfl, rfl⟩
  case round =>
    obtain ⟨k, hk, rfl, rfl⟩ := hrel
    rcases (show k = 0 ∨ k = 1 ∨ k = 2 by omega) with rfl | rfl | rfl
    · go_wp2_with fail
      go_roundw
      case rel => exact ⟨1, by omega, by go_num, trivial⟩
      case measure => simp [intOf]
    · go_wp2_with fail
      go_roundw
      case rel => exact ⟨2, by omega, by go_num, trivial⟩
      case measure => simp [intOf]
    · go_wp2_with fail
      rename World => wc
      go_loopw [7] (fun i wr => ∃ k : Nat, k ≤ nl ∧ i = .int .i64 (k : Nat) ∧ wr = wc) (fun i _ => nl - (intOf i).toNat)
      case atStart => exact ⟨0, by omega, rfl, rfl⟩
      case round =>
        obtain ⟨k, hk, rfl, rfl⟩ := hrel
        by_cases hlt : k < nl
        · obtain ⟨⟨ta, tn, tc⟩, t1, t2, t3, t4⟩ := Hls.out k (by rw [Hll.out]; exact hlt)
          simp only at t1
          unfold tvv at t3
          obtain ⟨-, r4, g4, hta, -, m4⟩ := t4
          simp only at r4 m4 hta
          subst hta
          clear t2
          go_wp2_with fail
          go_roundw
          case rel => exact ⟨k + 1, by omega, by go_num, trivial⟩
          case measure => simp [intOf]; omega
        · obtain rfl : k = nl := by omega
          have Hm := Lib.hid ml
          clear m0 m1
          obtain ⟨p0, p1, p2, p3⟩ := HB2.out
          go_wp2_with fail
          clear p0 p1 p2 p3
          (with_reducible refine (HS.out _ (Kp.refl _)).mono ?_)
          rintro e w2 ⟨rfl, hk2⟩
          rw [show sameL b0 b1 ls b0 b1 ls = true by simp [sameL]]
          replace q3 := hk2.cell q3
          replace ml := hk2.cell ml
          go_wp2_with fail
          go_ret
          exact ⟨rfl, Kp.trans Hkb.out hk2⟩
end Go.Proofs.YtpemfmjplejdiaaDoor
