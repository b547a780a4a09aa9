/- What the document's table lies there as, in the table's order; the question asked of each of it. Conditions: said in the theorems. -/
import Derived.Test.YtkmejehhdjdlbaaGreatDoorGd6
import Derived.Test.YtkmejehhdjdlbaaGreatDoorGd4
import Derived.Test.YtkmejehhdjdlbaaGreatDoorGd1
namespace Go.Proofs.YtkmejehhdjdlbaaGreatDoor
open Go.RowKit

attribute [local irreducible] tblK tblP tblQ Q.piecesB Q.tableB Q.tableL rowOf rowsL namesS
/-- The patterns lie there, each at its place. -/
def Wnt (w : World) (g : Nat) : Prop := ∀ (k : Nat) (y : Row) (h : k < namesS.length), rowOf namesS[k] = some y → ∃ t0 t1 tl : Tv, w.cell? ⟨g, k * 4, none⟩ = some (.string (bs y.1)) ∧ w.cell? ⟨g, k * 4 + 1, none⟩ = some (tvv t0) ∧ w.cell? ⟨g, k * 4 + 2, none⟩ = some (tvv t1) ∧ w.cell? ⟨g, k * 4 + 3, none⟩ = some (tvv tl) ∧
  PatI w t0.ao t1.ao tl.ao t0.n t1.n tl.n y.2.1.1 y.2.1.2 y.2.2.1
theorem Wnt.kp {w w' : World} {g : Nat} (h : Wnt w g) (k : Kp w w') : Wnt w' g := fun j y hj hy => by
  obtain ⟨t0, t1, tl, h0, h1, h2, h3, hP⟩ := h j y hj hy
  exact ⟨t0, t1, tl, k.cell h0, k.cell h1, k.cell h2, k.cell h3, hP.kp k⟩
theorem PvO.wnt {w : World} {B : Nat} {X : List Nat} {ao : Option Addr} {n cap : Nat} (h : PvO w B X ao n cap 38) : n = 38 ∧ ∃ g, ao = some ⟨g, 0, none⟩ ∧ Wnt w g := by
  obtain ⟨hn, ps, hpl, hown, hps⟩ := h
  refine ⟨hn, ?_⟩
  obtain ⟨g, rfl⟩ := hown.blockOf (by omega)
  refine ⟨g, rfl, fun k y hk hy => ?_⟩
  have hk38 : k < 38 := by rw [namesS_length, tableL_len] at hk; exact hk
  obtain ⟨b, off, e, hc⟩ := hown.cs.at 0 (by rw [pvc_len]; omega)
  cases e
  have hkl : k < ps.length := by omega
  obtain ⟨g0, g1, g2, g3⟩ := pvc_get ps k hkl
  obtain ⟨r, hr⟩ : ∃ r, rowsL[k]? = some r := ⟨_, List.getElem?_eq_getElem (by rw [rowsL_length]; omega)⟩
  obtain ⟨hnm, hst⟩ := hps k hkl r hr
  obtain ⟨_, _, _, q1, q2, q3⟩ := hst.now
  have hname := namesS_at hk hr
  obtain ⟨y', hy1, hy2, hy3, hy4, hy5⟩ := ref_at hr
  rw [hname, hy1] at hy
  cases hy
  have hnmy : (ps[k]'hkl).nm = bs y.1 := by rw [hnm, hy2]; exact (bs_data _).symm
  rw [hnmy] at g0
  refine ⟨(ps[k]'hkl).b0, (ps[k]'hkl).b1, (ps[k]'hkl).ls, ?_, ?_, ?_, ?_, ?_⟩
  · have := hc _ _ g0; simpa using this
  · have := hc _ _ g1; simpa using this
  · have := hc _ _ g2; simpa using this
  · have := hc _ _ g3; simpa using this
  · rw [hy3, hy4, hy5]
    exact ⟨q1, q2, q3⟩
/-- A pattern among the inner round's: it is the one that is wanted. -/
def InnPost (w : World) (bo bk k : Nat) (inner : Int) (e : Ending) (w' : World) : Prop := e = .returned (.bool (((k : Int) + 1) != inner)) ∧ Fr [bo, bk] w w' ∧ One1 w' bo (.bool true) ∧ One1 w' bk (iv (((k + 1 : Nat) : Nat) : Int))
set_option maxRecDepth 100000 in
set_option maxHeartbeats 8000000 in
theorem inner_any (w : World) (nm : ByteArray) (a0 a1 al e0 e1 el : Option Addr) (n0 c0 n1 c1 nl cl m0 f0 m1 f1 ml fl : Nat) (b0 b1 : List Int) (ls : List Ln) (hP : PatI w a0 a1 al n0 n1 nl b0 b1 ls) (hQ : PatI w e0 e1 el m0 m1 ml b0 b1 ls)
    (bo bk bw bi g cap k : Nat) (inner : Int) (hk : k < 38) (hne : bo ≠ bk) (ho : One1 w bo (.bool true)) (hkk : One1 w bk (iv (k : Nat))) (hw : One1 w bw (.slice (some ⟨g, 0, none⟩) 38 cap)) (hi : One1 w bi (iv inner)) (hbw : bw ≠ bo ∧ bw ≠ bk) (hbi : bi ≠ bo ∧ bi ≠ bk)
    (hc0 : w.cell? ⟨g, k * 4, none⟩ = some (.string nm)) (hc1 : w.cell? ⟨g, k * 4 + 1, none⟩ = some (.slice e0 m0 f0)) (hc2 : w.cell? ⟨g, k * 4 + 2, none⟩ = some (.slice e1 m1 f1)) (hc3 : w.cell? ⟨g, k * 4 + 3, none⟩ = some (.slice el ml fl)) :
    Calls Tryz.prog 37 #[patV nm a0 a1 al n0 c0 n1 c1 nl cl, .pointer (some ⟨bo, 0, none⟩), .pointer (some ⟨bk, 0, none⟩), .pointer (some ⟨bw, 0, none⟩), .pointer (some ⟨bi, 0, none⟩)] w (InnPost w bo bk k inner) := by
  have hk1 := Kp.new w (.cells #[.string nm, .slice a0 n0 c0, .slice a1 n1 c1, .slice al nl cl] 26)
  have hF := Four.new w (.string nm) (.slice a0 n0 c0) (.slice a1 n1 c1) (.slice al nl cl) 26
  have hbo := World.block_lt_of_cell? w _ ho.c
  have hbk := World.block_lt_of_cell? w _ hkk.c
  simp only at hbo hbk
  have Hsz := Lib.hid (And.intro hbo hbk)
  replace ho := ho.kp hk1
  replace hkk := hkk.kp hk1
  replace hw := hw.kp hk1
  replace hi := hi.kp hk1
  replace hc0 := hk1.cell hc0
  replace hc1 := hk1.cell hc1
  replace hc2 := hk1.cell hc2
  replace hc3 := hk1.cell hc3
  replace hP := hP.kp hk1
  replace hQ := hQ.kp hk1
  have Hk1 := Lib.hid hk1
  clear hk1 hbo hbk
  go_enter Tryz.func37, Tryz.ntmps37
  go_upto_region 1 with fail
  obtain ⟨bx, hbx⟩ : ∃ bx, bx = w.heap.size := ⟨_, rfl⟩
  rw [← hbx] at hF ⊢
  generalize w.alloc (.cells #[.string nm, .slice a0 n0 c0, .slice a1 n1 c1, .slice al nl cl] 26) = w1 at *
  clear hbx
  refine region_tailq 13 (by kernel_rfl) (by kernel_rfl) ?_
  obtain ⟨wd, hwd⟩ : ∃ wd, wd = w1.drew := ⟨_, rfl⟩
  have hkd : Kp w1 wd := hwd ▸ (⟨rfl, rfl, rfl, Nat.le_refl _, fun _ _ => rfl⟩ : Kp w1 w1.drew)
  rw [← hwd]
  clear hwd
  have Hkd := Lib.hid (Kp.trans Hk1.out hkd)
  have HSa := Lib.hid (same_yes wd nm a0 a1 al e0 e1 el n0 c0 n1 c1 nl cl m0 f0 m1 f1 ml fl b0 b1 ls (hP.kp hkd) (hQ.kp hkd))
  have HO := Lib.hid (ho.kp hkd)
  have HK := Lib.hid (hkk.kp hkd)
  have HW := Lib.hid (hw.kp hkd)
  have HI := Lib.hid (hi.kp hkd)
  obtain ⟨y0, y1, y2, y3, _, _, _, _⟩ := hF.kp hkd
  replace hc0 := hkd.cell hc0
  replace hc1 := hkd.cell hc1
  replace hc2 := hkd.cell hc2
  replace hc3 := hkd.cell hc3
  obtain ⟨o1, _⟩ := HO.out
  obtain ⟨k1, _⟩ := HK.out
  obtain ⟨v1, _⟩ := HW.out
  obtain ⟨i1, _⟩ := HI.out
  clear ho hkk hw hi hP hQ hkd hF
  have hki : ((k : Nat) : Int) < 38 := by omega
  have hkd2 : decide (((k : Nat) : Int) < 38) = true := decide_eq_true hki
  simp only [List.take_succ_cons, List.take_zero, List.drop_succ_cons, List.drop_zero]
  repeat (go_big_quiet_step (fail))
  refine wpQuiet_nil ?_
  go_wp2_with fail
  (with_reducible refine HSa.out.mono ?_)
  rintro e w4 ⟨rfl, hk4⟩
  have HO4 := HO.out.kp hk4
  have HK4 := HK.out.kp hk4
  have HI4 := HI.out.kp hk4
  have hK4 := Kp.trans Hkd.out hk4
  have hf5 := Fr.set w4 ⟨bo, 0, none⟩ (.bool true)
  have HO5 := Lib.hid (HO4.set (.bool true))
  have HK5 := HK4.fr hf5 (by simp; omega)
  have HI5 := HI4.fr hf5 (by simp; omega)
  have hF5 := Lib.hid (((Fr.of_kp hK4).mono (Y := [bo, bk]) (by simp)).trans (hf5.mono (by simp)))
  clear y0 y1 y2 y3 o1 k1 v1 i1 hc0 hc1 hc2 hc3 hf5 hK4 HK4 HI4
  obtain ⟨o1, o2⟩ := HO4
  go_upto_region 2 with fail
  clear o1 o2 hk4
  generalize w4.setCell ⟨bo, 0, none⟩ (.bool true) = w5 at *
  have hf6 := Fr.set w5 ⟨bk, 0, none⟩ (iv (((k : Nat) : Int) + 1))
  have HK6 := HK5.set (iv (((k : Nat) : Int) + 1))
  have HO6 := HO5.out.fr hf6 (by simp; omega)
  have HI6 := HI5.fr hf6 (by simp; omega)
  have HF6 := Lib.hid (hF5.out.trans (hf6.mono (by simp)))
  have HK7 := Lib.hid HK6
  have HO7 := Lib.hid HO6
  clear hf6 HI5
  obtain ⟨k1, k2⟩ := HK5
  obtain ⟨k3, _⟩ := HK6
  obtain ⟨o3, _⟩ := HO6
  obtain ⟨i3, _⟩ := HI6
  clear hki hkd2
  have hk64 : ((k : Nat) : Int) + 1 ≤ 38 := by omega
  go_wp2_with fail
  go_ret
  exact ⟨rfl, HF6.out, HO7.out, HK7.out⟩
end Go.Proofs.YtkmejehhdjdlbaaGreatDoor
