/- What the laws ask at their end: a name is known. Condition: the variables lie there (Env). -/
import Derived.Test.YtbdphdgomcabmaaGreatDoorPar
namespace Go.Proofs.YtbdphdgomcabmaaGreatDoor
open Go.RowKit

theorem awake_row : nmD (⟨#[78, 111, 105, 115, 101, 95, 78, 78, 112, 115, 107, 48, 95, 50, 53, 53, 49, 57, 95, 67, 104, 97, 67, 104, 97, 80, 111, 108, 121, 95, 66, 76, 65, 75, 69, 50, 115]⟩ : ByteArray).data.toList = (⟨#[78, 78, 112, 115, 107, 48]⟩, [], [], [(0, [7, 1]), (1, [1, 3])], true) := by kernel_rfl
set_option maxRecDepth 100000 in
set_option maxHeartbeats 4000000 in
theorem awake_any (w : World) (E : Nat → Addr) (m : Int) (hE : Env w E m) : Calls Tryz.prog 15 #[] w fun e w' => e = .returned (.bool true) ∧ Kp w w' := by
  have HP := Lib.hid (parseN_any w E m hE ⟨#[78, 111, 105, 115, 101, 95, 78, 78, 112, 115, 107, 48, 95, 50, 53, 53, 49, 57, 95, 67, 104, 97, 67, 104, 97, 80, 111, 108, 121, 95, 66, 76, 65, 75, 69, 50, 115]⟩)
  unfold NmPost at HP
  rw [awake_row] at HP
  simp only [errN, if_true] at HP
  clear hE
  go_enter Tryz.func15, Tryz.ntmps15
  go_wp2_with fail
  (with_reducible refine HP.out.mono ?_)
  rintro e w1 ⟨hk1, t0, t1, tl, rfl, hP⟩
  unfold tvv
  have hn : tl.n = 2 := by rw [← hP.il.1]; rfl
  obtain ⟨tla, tln, tlc⟩ := tl
  simp only at hP hn ⊢
  subst hn
  have hk2 := Kp.new w1 (.cells #[.string ⟨#[78, 78, 112, 115, 107, 48]⟩, .slice t0.ao t0.n t0.c, .slice t1.ao t1.n t1.c, .slice tla 2 tlc] 26)
  have hF := Four.new w1 (.string ⟨#[78, 78, 112, 115, 107, 48]⟩) (.slice t0.ao t0.n t0.c) (.slice t1.ao t1.n t1.c) (.slice tla 2 tlc) 26
  have hP2 := hP.kp hk2
  have HK := Lib.hid (Kp.trans hk1 hk2)
  obtain ⟨g2, o2, sp, sn, sc, rfl, he1, he2, hJ, _⟩ := hP2.il.2.2 0 (by simp)
  simp only [Nat.zero_mul, Nat.add_zero, List.getElem_cons_zero] at he1 he2 hJ
  have hsn : sn = 2 := by rw [← hJ.1]; rfl
  subst hsn
  obtain ⟨g3, o3, rfl, _, hc⟩ := hJ.at 0 (by omega)
  have hc0 := hc 0 (by omega)
  simp only [Nat.add_zero, List.getElem_cons_zero] at hc0
  clear hk1 hk2 hP hP2 hJ hc he1 HP
  go_upto_region 2 with fail
  generalize w1.alloc (.cells #[.string ⟨#[78, 78, 112, 115, 107, 48]⟩, .slice t0.ao t0.n t0.c, .slice t1.ao t1.n t1.c, .slice (some ⟨g2, o2, none⟩) 2 tlc] 26) = w2 at *
  generalize w1.heap.size = bp at *
  obtain ⟨y0, y1, y2, y3, _, _, _, _⟩ := hF
  go_wp2_with fail
  go_ret
  exact ⟨rfl, HK.out⟩
end Go.Proofs.YtbdphdgomcabmaaGreatDoor
