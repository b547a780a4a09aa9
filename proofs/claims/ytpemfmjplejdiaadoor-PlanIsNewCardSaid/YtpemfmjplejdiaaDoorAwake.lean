/- What the law asks of NN is so. Condition: the four errors lie there (Errs). -/
import Derived.Test.YtpemfmjplejdiaaDoorGa4
import Derived.Test.YtpemfmjplejdiaaDoorUnrollT
namespace Go.Proofs.YtpemfmjplejdiaaDoor
open Go.RowKit

set_option maxRecDepth 100000 in
set_option maxHeartbeats 4000000 in
theorem awake_any (w : World) (E : Nat → Addr) (hE : Errs w E) : Calls Tryd.prog 10 #[] w fun e w' => e = .returned (.bool true) ∧ Kp w w' := by
  have Hf := Lib.hid (show Calls Tryd.prog 22 #[.string ⟨#[78, 78]⟩] w (FindPost w) from find_any w)
  go_enter Tryd.func10, Tryd.ntmps10
  go_wp2_with fail
  (with_reducible refine Hf.out.mono ?_)
  rintro e w1 ⟨hk1, nm, t0, c0, t1, c1, tl, nl, cl, rfl, h0, h1, hl⟩
  have hE1 := Kp.errs hk1 hE
  have hk2 := Kp.new w1 (.cells #[.string nm, .slice t0 0 c0, .slice t1 0 c1, .slice tl nl cl] 26)
  have Hu := Lib.hid (unroll_true (w1.alloc (.cells #[.string nm, .slice t0 0 c0, .slice t1 0 c1, .slice tl nl cl] 26)) E (hk2.errs hE1) nm t0 t1 tl 0 c0 0 c1 nl cl [] [] nnLs (hk2.is h0) (hk2.is h1) (hk2.lns hl))
  clear h0 h1 hl
  go_wp2_with fail
  (with_reducible refine Hu.out.mono ?_)
  rintro e w2 ⟨hk3, h⟩
  rw [if_pos nn_check] at h
  obtain ⟨ao, n, cap, rfl, hM⟩ := h
  have hms := hM.mvs
  obtain ⟨hl, hop0, hop10⟩ := nn_moves true
  obtain rfl : n = 11 := by rw [← hms.1, hl]
  obtain ⟨b, off, rfl, hc⟩ := hms.at 0 (by omega)
  have c0 := (hc 0 (by omega)).1
  have c10 := (hc 10 (by omega)).1
  rw [Nat.zero_mul, Nat.add_zero] at c0
  have e0 : ((unrollL true [] [] nnLs)[0]'(by omega)).op = 2 := by
    rw [List.getElem?_eq_getElem (by omega)] at hop0; simpa using hop0
  have e10 : ((unrollL true [] [] nnLs)[10]'(by omega)).op = 14 := by
    rw [List.getElem?_eq_getElem (by omega)] at hop10; simpa using hop10
  rw [e0] at c0
  rw [e10] at c10
  have Hk := Lib.hid (Kp.trans hk1 (Kp.trans hk2 hk3))
  clear e0 e10 hc hms hM hop0 hop10 hl hk1 hk2 hk3 Hu
  go_wp2_with fail
  go_ret
  exact ⟨rfl, Hk.out⟩
end Go.Proofs.YtpemfmjplejdiaaDoor
