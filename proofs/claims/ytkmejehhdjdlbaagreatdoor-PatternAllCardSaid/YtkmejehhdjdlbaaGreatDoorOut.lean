/- The outer question asked of each pattern. Conditions: said in the theorem. -/
import Derived.Test.YtkmejehhdjdlbaaGreatDoorInn
namespace Go.Proofs.YtkmejehhdjdlbaaGreatDoor
open Go.RowKit

attribute [local irreducible] tblK tblP tblQ Q.piecesB Q.tableB Q.tableL rowOf rowsL namesS
def OutPost (w : World) (bo bn k : Nat) (r most : Int) (e : Ending) (w' : World) : Prop := e = .returned (.bool (decide (r = 2) || (((k : Int) + 1) != most))) ∧ Fr [bo, bn] w w' ∧ One1 w' bo (.bool true) ∧ One1 w' bn (iv (((k + 1 : Nat) : Nat) : Int))
set_option maxRecDepth 100000 in
set_option maxHeartbeats 8000000 in
theorem outer_any (wB w : World) (E : Nat → Addr) (m : Int) (hE : Env wB E m) (hk : Kp wB w) (nm : ByteArray) (a0 a1 al e0 e1 el : Option Addr) (n0 c0 n1 c1 nl cl m0 f0 m1 f1 ml fl : Nat) (b0 b1 : List Int) (ls : List Ln) (hP : PatI w a0 a1 al n0 n1 nl b0 b1 ls) (hQ : PatI w e0 e1 el m0 m1 ml b0 b1 ls)
    (bo bn bw br bt bi bm g cap k : Nat) (r inner most : Int) (hk38 : k < 38) (hne : bo ≠ bn) (hbo : wB.heap.size ≤ bo) (hbn : wB.heap.size ≤ bn) (ho : One1 w bo (.bool true)) (hn : One1 w bn (iv (k : Nat))) (hr : One1 w br (iv r)) (hbr : br ≠ bo ∧ br ≠ bn)
    (hw : One1 wB bw (.slice (some ⟨g, 0, none⟩) 38 cap)) (ht : One1 wB bt (.func (.func 78) #[] #[])) (hi : One1 wB bi (iv inner)) (hm : One1 wB bm (iv most)) (hW : Wnt wB g)
    (hc0 : w.cell? ⟨g, k * 4, none⟩ = some (.string nm)) (hc1 : w.cell? ⟨g, k * 4 + 1, none⟩ = some (.slice e0 m0 f0)) (hc2 : w.cell? ⟨g, k * 4 + 2, none⟩ = some (.slice e1 m1 f1)) (hc3 : w.cell? ⟨g, k * 4 + 3, none⟩ = some (.slice el ml fl)) :
    Calls Tryz.prog 36 #[patV nm a0 a1 al n0 c0 n1 c1 nl cl, .pointer (some ⟨bo, 0, none⟩), .pointer (some ⟨bn, 0, none⟩), .pointer (some ⟨bw, 0, none⟩), .pointer (some ⟨br, 0, none⟩), .pointer (some ⟨bt, 0, none⟩), .pointer (some ⟨bi, 0, none⟩), .pointer (some ⟨bm, 0, none⟩)] w (OutPost w bo bn k r most) := by
  have hk1 := Kp.new w (.cells #[.string nm, .slice a0 n0 c0, .slice a1 n1 c1, .slice al nl cl] 26)
  have hF := Four.new w (.string nm) (.slice a0 n0 c0) (.slice a1 n1 c1) (.slice al nl cl) 26
  have hbo2 := World.block_lt_of_cell? w _ ho.c
  have hbn2 := World.block_lt_of_cell? w _ hn.c
  have hbr2 := World.block_lt_of_cell? w _ hr.c
  simp only at hbo2 hbn2 hbr2
  have hlw : bw < wB.heap.size := World.block_lt_of_cell? _ _ hw.c
  have hlt : bt < wB.heap.size := World.block_lt_of_cell? _ _ ht.c
  have hli : bi < wB.heap.size := World.block_lt_of_cell? _ _ hi.c
  have hlm : bm < wB.heap.size := World.block_lt_of_cell? _ _ hm.c
  have hwB := hk.size
  have HE := Lib.hid hE
  have HWn := Lib.hid hW
  have HBw := Lib.hid hw
  have HBt := Lib.hid ht
  have HBi := Lib.hid hi
  have HBm := Lib.hid hm
  replace ho := ho.kp hk1
  replace hn := hn.kp hk1
  replace hr := hr.kp hk1
  replace hc0 := hk1.cell hc0
  replace hc1 := hk1.cell hc1
  replace hc2 := hk1.cell hc2
  replace hc3 := hk1.cell hc3
  replace hP := hP.kp hk1
  replace hQ := hQ.kp hk1
  have Hk1 := Lib.hid hk1
  have HkB := Lib.hid (Kp.trans hk hk1)
  clear hk1 hk hE hW hw ht hi hm
  go_enter Tryz.func36, Tryz.ntmps36
  go_upto_region 1 with fail
  obtain ⟨bx, hbx⟩ : ∃ bx, bx = w.heap.size := ⟨_, rfl⟩
  rw [← hbx] at hF ⊢
  generalize w.alloc (.cells #[.string nm, .slice a0 n0 c0, .slice a1 n1 c1, .slice al nl cl] 26) = w1 at *
  clear hbx
  refine region_tailq 13 (by kernel_rfl) (by kernel_rfl) ?_
  obtain ⟨wd, hwd⟩ : ∃ wd, wd = w1.drew := ⟨_, rfl⟩
  have hkd : Kp w1 wd := hwd ▸ (⟨rfl, rfl, rfl, Nat.le_refl _, fun _ _ => rfl⟩ : Kp w1 w1.drew)
  rw [← hwd]
  clear hwd
  have Hkd := Lib.hid (Kp.trans Hk1.out hkd)
  have HkB2 := Lib.hid (Kp.trans HkB.out hkd)
  have HSa := Lib.hid (same_yes wd nm a0 a1 al e0 e1 el n0 c0 n1 c1 nl cl m0 f0 m1 f1 ml fl b0 b1 ls (hP.kp hkd) (hQ.kp hkd))
  have HO := Lib.hid (ho.kp hkd)
  have HN := Lib.hid (hn.kp hkd)
  have HR := Lib.hid (hr.kp hkd)
  obtain ⟨y0, y1, y2, y3, _, _, _, _⟩ := hF.kp hkd
  replace hc0 := hkd.cell hc0
  replace hc1 := hkd.cell hc1
  replace hc2 := hkd.cell hc2
  replace hc3 := hkd.cell hc3
  obtain ⟨o1, _⟩ := HO.out
  obtain ⟨k1, _⟩ := HN.out
  obtain ⟨v1, _⟩ := HBw.out.kp HkB2.out
  clear ho hn hr hP hQ hkd hF
  have hki : ((k : Nat) : Int) < 38 := by omega
  have hkd2 : decide (((k : Nat) : Int) < 38) = true := decide_eq_true hki
  simp only [List.take_succ_cons, List.take_zero, List.drop_succ_cons, List.drop_zero]
  repeat (go_big_quiet_step (fail))
  refine wpQuiet_nil ?_
  go_wp2_with fail
  (with_reducible refine HSa.out.mono ?_)
  rintro e w4 ⟨rfl, hk4⟩
  have HO4 := HO.out.kp hk4
  have HN4 := HN.out.kp hk4
  have HR4 := HR.out.kp hk4
  have hK4 := Kp.trans Hkd.out hk4
  have hf5 := Fr.set w4 ⟨bo, 0, none⟩ (.bool true)
  have HO5 := Lib.hid (HO4.set (.bool true))
  have HN5 := HN4.fr hf5 (by simp; omega)
  have HR5 := HR4.fr hf5 (by simp; omega)
  have hF5 := Lib.hid (((Fr.of_kp hK4).mono (Y := [bo, bn]) (by simp)).trans (hf5.mono (by simp)))
  have hB5 := Lib.hid (kp_step' (Kp.trans HkB2.out hk4) hf5 (by simpa using hbo))
  clear y0 y1 y2 y3 o1 k1 v1 hc0 hc1 hc2 hc3 hf5 hK4 HN4 HR4
  obtain ⟨o1, o2⟩ := HO4
  go_upto_region 2 with fail
  clear o1 o2 hk4
  generalize w4.setCell ⟨bo, 0, none⟩ (.bool true) = w5 at *
  have hf6 := Fr.set w5 ⟨bn, 0, none⟩ (iv (((k : Nat) : Int) + 1))
  have HN6 := Lib.hid (HN5.set (iv (((k : Nat) : Int) + 1)))
  have HO6 := Lib.hid (HO5.out.fr hf6 (by simp; omega))
  have HR6 := Lib.hid (HR5.fr hf6 (by simp; omega))
  have HF6 := Lib.hid (hF5.out.trans (hf6.mono (by simp)))
  have HB6 := Lib.hid (kp_step' hB5.out hf6 (by simpa using hbn))
  clear hf6 HR5 hki hkd2
  have hk64 : ((k : Nat) : Int) + 1 ≤ 38 := by omega
  obtain ⟨k1, k2⟩ := HN5
  go_upto_region 3 with fail
  clear k1 k2
  generalize w5.setCell ⟨bn, 0, none⟩ (.int .i64 (((k : Nat) : Int) + 1)) = w6 at *
  obtain ⟨u1, _⟩ := HN6.out
  obtain ⟨o1, o2⟩ := HO6.out
  obtain ⟨r1, _⟩ := HR6.out
  obtain ⟨t1, _⟩ := HBt.out.kp HB6.out
  obtain ⟨i1, _⟩ := HBi.out.kp HB6.out
  obtain ⟨v1, _⟩ := HBw.out.kp HB6.out
  obtain ⟨m1, _⟩ := HBm.out.kp HB6.out
  by_cases hin : r = 1 ∧ k + 1 < 4
  · obtain ⟨hr1, hk4⟩ := hin
    subst hr1
    have hk4i : ((k : Nat) : Int) + 1 < 4 := by omega
    have ha7 := Kp.new w6 (.cells #[iv 0] 3)
    have hK7 := One1.new w6 (iv 0) 3
    have HO7 := Lib.hid (HO6.out.kp ha7)
    have HN7 := Lib.hid (HN6.out.kp ha7)
    have HR7 := Lib.hid (HR6.out.kp ha7)
    have HB7 := Lib.hid (Kp.trans HB6.out ha7)
    have HF7 := Lib.hid (HF6.out.trans ((Fr.of_kp ha7).mono (by simp)))
    have hsz := ha7.size
    have hsz2 := HF6.out.size
    have hsz3 := HB6.out.size
    clear ha7
    go_upto_region 5 with fail
    obtain ⟨bk, hbk⟩ : ∃ bk, bk = w6.heap.size := ⟨_, rfl⟩
    rw [← hbk] at hK7 ⊢
    have hbk2 : wB.heap.size ≤ bk ∧ bo < bk ∧ bn < bk ∧ br < bk ∧ w.heap.size ≤ bk := by omega
    clear hbk u1 o1 o2 r1 t1 i1 v1 m1 hsz hsz2 hsz3
    generalize w6.alloc (.cells #[iv 0] 3) = w7 at *
    have HIn := Lib.hid (inner_all wB w7 E m HE.out HB7.out bo bk bw bi g cap inner (by omega) hbo (by omega) HO7.out hK7 HBw.out HBi.out HWn.out)
    obtain ⟨t1, _⟩ := HBt.out.kp HB7.out
    have hen : ∀ (args : Array Value) (w : World), (callFunc 78 args).run Tryz.prog w = .ok (.enter 78 args) w := enters_of Tryz.func78 (by kernel_rfl) rfl
    go_wp2_with fail
    (with_reducible refine HIn.out.mono ?_)
    rintro e w8 ⟨rfl, hf8, ho8, c, hc8, hcc⟩
    have hB8 := kp_step' HB7.out hf8 (fun x hx => by simp at hx; omega)
    have HN8 := HN7.out.fr hf8 (by simp; omega)
    have HR8 := HR7.out.fr hf8 (by simp; omega)
    have hF8 : Fr [bo, bn] w w8 := HF7.out.step hf8 (fun x hx => by simp at hx; rcases hx with rfl | rfl <;> simp <;> omega)
    have hf9 := Fr.set w8 ⟨bo, 0, none⟩ (.bool true)
    have HO9 := Lib.hid (ho8.set (.bool true))
    have HN9 := Lib.hid (HN8.fr hf9 (by simp; omega))
    have HR9 := Lib.hid (HR8.fr hf9 (by simp; omega))
    have HF9 := Lib.hid (hF8.trans (hf9.mono (by simp)))
    have HB9 := Lib.hid (kp_step' hB8 hf9 (by simpa using hbo))
    obtain ⟨t2, _⟩ := HBt.out.kp hB8
    obtain ⟨i1, _⟩ := HBi.out.kp hB8
    obtain ⟨v1, _⟩ := HBw.out.kp hB8
    obtain ⟨o1, o2⟩ := ho8
    obtain ⟨k1, _⟩ := hc8
    clear hf8 hB8 HN8 HR8 hF8 hf9 t1
    have Hcc := Lib.hid hcc
    clear hcc
    have hstep : ∀ (b : Bool), b = true → True := fun _ _ => trivial
    clear hstep
    by_cases hci : (c : Int) = inner
    · subst hci
      go_upto_region 7 with fail
      clear t2 i1 v1 o1 o2 k1
      generalize w8.setCell ⟨bo, 0, none⟩ (.bool true) = w9 at *
      obtain ⟨u1, _⟩ := HN9.out
      obtain ⟨o1, _⟩ := HO9.out
      obtain ⟨r1, _⟩ := HR9.out
      obtain ⟨m1, _⟩ := HBm.out.kp HB9.out
      go_wp2_with fail
      go_ret
      exact ⟨by simp, HF9.out, HO9.out, HN9.out⟩
    · have hc38 : c = 38 := by have := Hcc.out; omega
      clear Hcc
      subst hc38
      have hci2 : ¬ (38 : Int) = inner := hci
      rw [show ((38 : Nat) : Int) = 38 from rfl] at k1
      go_upto_region 7 with fail
      clear t2 i1 v1 o1 o2 k1
      generalize w8.setCell ⟨bo, 0, none⟩ (.bool true) = w9 at *
      obtain ⟨u1, _⟩ := HN9.out
      obtain ⟨o1, _⟩ := HO9.out
      obtain ⟨r1, _⟩ := HR9.out
      obtain ⟨m1, _⟩ := HBm.out.kp HB9.out
      go_wp2_with fail
      go_ret
      exact ⟨by simp, HF9.out, HO9.out, HN9.out⟩
  · by_cases hr1 : r = 1
    · have hk4 : ¬ k + 1 < 4 := fun h => hin ⟨hr1, h⟩
      have hk4i : ¬ ((k : Nat) : Int) + 1 < 4 := by omega
      clear hin
      subst hr1
      go_wp2_with fail
      go_ret
      exact ⟨by simp, HF6.out, HO6.out, HN6.out⟩
    · clear hin
      by_cases hr2 : r = 2
      · subst hr2
        go_wp2_with fail
        go_ret
        exact ⟨by simp, HF6.out, HO6.out, HN6.out⟩
      · go_wp2_with fail
        go_ret
        exact ⟨by simp [hr2], HF6.out, HO6.out, HN6.out⟩
end Go.Proofs.YtkmejehhdjdlbaaGreatDoor
