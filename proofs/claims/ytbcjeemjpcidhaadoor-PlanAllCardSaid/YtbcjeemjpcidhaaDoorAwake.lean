/- What the law asks of NN is so. Condition: the four errors lie there (Errs). -/
import Derived.Test.YtbcjeemjpcidhaaDoorFind
import Derived.Test.YtbcjeemjpcidhaaDoorAll
import Derived.Test.YtbcjeemjpcidhaaDoorPa1
import Derived.Test.YtbcjeemjpcidhaaDoorPa3
import Derived.Test.YtbcjeemjpcidhaaDoorPa4
import Derived.Test.YtbcjeemjpcidhaaDoorUnrollT
import Derived.Test.YtbcjeemjpcidhaaDoorPa2
import Derived.Test.YtbcjeemjpcidhaaDoorTakes
namespace Go.Proofs.YtbcjeemjpcidhaaDoor
open Go.RowKit

theorem nn_row : (rowOf [78, 78]).map (fun y => (y.1, y.2.1.1, y.2.1.2, y.2.2.1)) = some ([78, 78], [], [], nnLs) := by kernel_rfl
set_option maxRecDepth 100000 in
set_option maxHeartbeats 4000000 in
theorem awake_any (w : World) (E : Nat → Addr) (hE : Errs w E) : Calls Tryd.prog 8 #[] w fun e w' => e = .returned (.bool true) ∧ Kp w w' := by
  have Hf := Lib.hid (rfind_any w ⟨#[78, 78]⟩)
  unfold RFindPost at Hf
  obtain ⟨y, hy, hy2⟩ := Option.map_eq_some_iff.1 nn_row
  rw [show (⟨#[78, 78]⟩ : ByteArray).data.toList = [78, 78] from rfl, hy] at Hf
  simp only [Prod.mk.injEq] at hy2
  obtain ⟨e1, e2, e3, e4⟩ := hy2
  simp only [e1, e2, e3, e4] at Hf
  clear hy e1 e2 e3 e4
  go_enter Tryd.func8, Tryd.ntmps8
  go_wp2_with fail
  (with_reducible refine Hf.out.mono ?_)
  rintro e w1 ⟨hk1, t0, t1, tl, rfl, hP⟩
  unfold tvv
  obtain ⟨t0a, t0n, t0c⟩ := t0
  obtain ⟨t1a, t1n, t1c⟩ := t1
  obtain ⟨tla, tln, tlc⟩ := tl
  simp only at hP ⊢
  have hE1 := Kp.errs hk1 hE
  have hk2 := Kp.new w1 (.cells #[.string (bs [78, 78]), .slice t0a t0n t0c, .slice t1a t1n t1c, .slice tla tln tlc] 29)
  have Hu := Lib.hid (unroll_true (w1.alloc (.cells #[.string (bs [78, 78]), .slice t0a t0n t0c, .slice t1a t1n t1c, .slice tla tln tlc] 29)) E (hk2.errs hE1) (bs [78, 78]) t0a t1a tla t0n t0c t1n t1c tln tlc [] [] nnLs (hk2.is hP.i0) (hk2.is hP.i1) (hk2.lns hP.il))
  clear hP
  go_wp2_with fail
  (with_reducible refine Hu.out.mono ?_)
  rintro e w2 ⟨hk3, h⟩
  rw [if_pos nn_check] at h
  obtain ⟨ao, n, cap, rfl, hM⟩ := h
  have hms := hM.mvs
  obtain ⟨hl, hop0, hop10⟩ := nn_moves true
  obtain rfl : n = 11 := by rw [← hms.1, hl]
  obtain ⟨b, off, rfl, hc⟩ := hms.at 0 (by omega)
  have c0 := (hc 0 (by omega)).1
  have c10 := (hc 10 (by omega)).1
  rw [Nat.zero_mul, Nat.add_zero] at c0
  have e0 : ((unrollL true [] [] nnLs)[0]'(by omega)).op = 2 := by
    rw [List.getElem?_eq_getElem (by omega)] at hop0; simpa using hop0
  have e10 : ((unrollL true [] [] nnLs)[10]'(by omega)).op = 14 := by
    rw [List.getElem?_eq_getElem (by omega)] at hop10; simpa using hop10
  rw [e0] at c0
  rw [e10] at c10
  have Hk := Lib.hid (Kp.trans hk1 (Kp.trans hk2 hk3))
  clear e0 e10 hc hms hM hop0 hop10 hl hk1 hk2 hk3 Hu
  go_wp2_with fail
  go_ret
  exact ⟨rfl, Hk.out⟩
end Go.Proofs.YtbcjeemjpcidhaaDoor
