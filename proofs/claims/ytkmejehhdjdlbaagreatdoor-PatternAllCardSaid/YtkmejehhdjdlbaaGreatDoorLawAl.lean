/- PatternAll: the law's function answers true. Condition: the variables lie there (Env). -/
import Derived.Test.YtkmejehhdjdlbaaGreatDoorKn
import Derived.Test.YtkmejehhdjdlbaaGreatDoorOua
import Derived.Laws.EntriesVeiled
namespace Go.Proofs.YtkmejehhdjdlbaaGreatDoor
open Go.RowKit

attribute [local irreducible] tblK tblP tblQ Q.piecesB Q.tableB Q.tableL rowOf rowsL namesS
/-- The number in a cell. -/
def cellN (p : Value) (w : World) : Nat := match p with
  | .pointer (some a) => match w.cell? a with | some v => (intOf v).toNat | none => 0
  | _ => 0
theorem cellN_one {w : World} {b r : Nat} (h : One1 w b (iv (r : Nat))) : cellN (.pointer (some ⟨b, 0, none⟩)) w = r := by
  unfold cellN
  simp only [h.c]
  simp [intOf]
set_option maxRecDepth 100000 in
set_option maxHeartbeats 8000000 in
theorem all_true (w : World) (E : Nat → Addr) (m : Int) (hE : Env w E m) (most inner : Int) :
    Calls Tryz.prog 8 #[.int .i64 most, .int .i64 inner] w fun e w' => e = .returned (.bool true) ∧ Kp w w' := by
  have HE0 := Lib.hid hE
  have hkA := Kp.new w (.cells #[iv most] 3)
  have hM0 := One1.new w (iv most) 3
  have hkB := Kp.new (w.alloc (.cells #[iv most] 3)) (.cells #[iv inner] 3)
  have hI0 := One1.new (w.alloc (.cells #[iv most] 3)) (iv inner) 3
  replace hM0 := hM0.kp hkB
  rw [World.size_alloc] at hI0
  have Hk2 := Lib.hid (Kp.trans hkA hkB)
  have HM2 := Lib.hid hM0
  have HI2 := Lib.hid hI0
  clear hkA hkB hM0 hI0 hE
  go_enter Tryz.func8, Tryz.ntmps8
  go_upto_region 1 with fail
  obtain ⟨bm, hbm⟩ : ∃ bm, bm = w.heap.size := ⟨_, rfl⟩
  rw [← hbm] at HM2 HI2 ⊢
  clear hbm
  generalize (w.alloc (.cells #[iv most] 3)).alloc (.cells #[iv inner] 3) = w2 at *
  have HA := Lib.hid (all_any w2 [] (by simp))
  go_wp2_with fail
  (with_reducible refine HA.out.mono ?_)
  rintro e w3 ⟨hk3, ao, n, cap, rfl, hPv⟩
  obtain ⟨hn38, g, hao, hWn⟩ := hPv.wnt
  subst hn38
  subst hao
  have hk4 := Kp.new w3 (.cells #[.slice (some ⟨g, 0, none⟩) 38 cap] 53)
  have HW4 := Lib.hid (One1.new w3 (.slice (some ⟨g, 0, none⟩) 38 cap) 53)
  have HWn4 := Lib.hid (hWn.kp hk4)
  have Hk4 := Lib.hid (Kp.trans Hk2.out (Kp.trans hk3 hk4))
  have HM4 := Lib.hid (HM2.out.kp (Kp.trans hk3 hk4))
  have HI4 := Lib.hid (HI2.out.kp (Kp.trans hk3 hk4))
  clear hk3 hk4 hPv hWn HA HM2 HI2 Hk2
  go_upto_region 2 with fail
  generalize w3.heap.size = bw at *
  generalize w3.alloc (.cells #[.slice (some ⟨g, 0, none⟩) 38 cap] 53) = w4 at *
  have HF := Lib.hid (all_fn w4)
  go_wp2_with fail
  (with_reducible refine HF.out.mono ?_)
  rintro e w4b ⟨rfl, rfl⟩
  have hk5 := Kp.new w4 (.cells #[.func (.func 78) #[] #[]] 56)
  have HT := Lib.hid (One1.new w4 (.func (.func 78) #[] #[]) 56)
  have HW := Lib.hid (HW4.out.kp hk5)
  have HWn := Lib.hid (HWn4.out.kp hk5)
  have HM := Lib.hid (HM4.out.kp hk5)
  have HI := Lib.hid (HI4.out.kp hk5)
  have Hk := Lib.hid (Kp.trans Hk4.out hk5)
  have HE := Lib.hid (HE0.out.keep Hk.out)
  clear hk5 HW4 HWn4 HM4 HI4 Hk4 HF
  go_upto_region 3 with fail
  generalize w4.heap.size = bt at *
  generalize w4.alloc (.cells #[.func (.func 78) #[] #[]] 56) = wB at *
  have hnil : ∀ w : World, (binOp .eql 56 (.func (.func 78) #[] #[]) .nilFunc).run Tryz.prog w = .ok (.bool false) w := fun w => by kernel_rfl
  have hnil2 := hnil wB
  obtain ⟨t1, _⟩ := HT.out
  have h0 := Kp.new wB (.cells #[iv 0] 3)
  have HR0 := Lib.hid (One1.new wB (iv 0) 3)
  have H0 := Lib.hid h0
  clear h0 hnil
  go_wp2_with fail
  clear t1 hnil2
  go_loopw [7] (fun p wr => ∃ (r br : Nat), r ≤ 3 ∧ p = .pointer (some ⟨br, 0, none⟩) ∧ One1 wr br (iv (r : Nat)) ∧ Kp wB wr ∧ wB.heap.size ≤ br) (fun p wr => 3 - cellN p wr)
  case atStart => exact ⟨0, wB.heap.size, by omega, rfl, HR0.out, H0.out, Nat.le_refl _⟩
  case round =>
    clear HR0 H0
    obtain ⟨r, br, hr3, rfl, hr, hkr, hbr⟩ := hrel
    rename World => wr
    have hcn := cellN_one hr
    have HCn := Lib.hid hcn
    clear hcn
    have HRr := Lib.hid hr
    have HKr := Lib.hid hkr
    have hrw := World.block_lt_of_cell? _ _ hr.c
    have hwr := hkr.size
    simp only at hrw
    obtain ⟨r1, r2⟩ := hr
    clear hkr
    by_cases hlt : r < 3
    · have hkA := Kp.new wr (.cells #[iv 0] 3)
      have hN := One1.new wr (iv 0) 3
      have hkB := Kp.new (wr.alloc (.cells #[iv 0] 3)) (.cells #[.bool true] 4)
      have hO := One1.new (wr.alloc (.cells #[iv 0] 3)) (.bool true) 4
      rw [World.size_alloc] at hO
      replace hN := hN.kp hkB
      have hk5 := Kp.trans HKr.out (Kp.trans hkA hkB)
      have hr5 := HRr.out.kp (Kp.trans hkA hkB)
      clear hkA hkB
      go_upto_region 10 with fail
      obtain ⟨bn, hbn⟩ : ∃ bn, bn = wr.heap.size := ⟨_, rfl⟩
      rw [← hbn] at hN hO ⊢
      have hbs : wB.heap.size ≤ bn ∧ br < bn := by omega
      clear hbn r1 r2
      generalize (wr.alloc (.cells #[iv 0] 3)).alloc (.cells #[.bool true] 4) = w5 at *
      have HOut := Lib.hid (outer_all wB w5 E m HE.out hk5 (bn + 1) bn bw br bt (bm + 1) bm g cap (r : Int) inner most (by omega) (by omega) (by omega) hO hN hr5 (by omega) HW.out HT.out HI.out HM.out HWn.out)
      obtain ⟨t1, _⟩ := HT.out.kp hk5
      have hen : ∀ (args : Array Value) (w : World), (callFunc 78 args).run Tryz.prog w = .ok (.enter 78 args) w := enters_of Tryz.func78 (by kernel_rfl) rfl
      go_wp2_with fail
      (with_reducible refine HOut.out.mono ?_)
      rintro e w6 ⟨rfl, hf6, ho6, c, hc6, hcc⟩
      have hk6 := kp_step' hk5 hf6 (fun x hx => by simp at hx; omega)
      have hr6 := hr5.fr hf6 (by simp; omega)
      have hb6 := hk6.size
      have HC := Lib.hid hcc
      have HK6 := Lib.hid hk6
      have HR6 := Lib.hid hr6
      obtain ⟨v1, _⟩ := HW.out.kp hk6
      obtain ⟨m1, _⟩ := HM.out.kp hk6
      obtain ⟨o1, _⟩ := ho6
      obtain ⟨c1, _⟩ := hc6
      obtain ⟨r1, _⟩ := hr6
      have hwB6 : wB.heap.size ≤ w6.heap.size := hk6.size
      have HR8 := Lib.hid (One1.new w6 (iv (((r + 1 : Nat) : Nat) : Int)) 3)
      have HK8 := Lib.hid (Kp.trans HK6.out (Kp.new w6 (.cells #[iv (((r + 1 : Nat) : Nat) : Int)] 3)))
      have HCn8 := Lib.hid (cellN_one HR8.out)
      clear hf6 hk6 hN hO hr5 hk5 t1 hcc
      by_cases hc38 : c = 38
      · clear HC
        subst hc38
        rw [show ((38 : Nat) : Int) = 38 from rfl] at c1
        go_wp2_with fail
        refine ⟨⟨r + 1, w6.heap.size, by omega, rfl, HR8.out, HK8.out, hwB6⟩, ?_⟩
        show 3 - cellN _ (w6.alloc (.cells #[iv (((r + 1 : Nat) : Nat) : Int)] 3)) < _
        rw [HCn8.out, HCn.out]
        omega
      · have hcc := HC.out.resolve_left hc38
        obtain ⟨hr2, hcm⟩ := hcc
        have hcI : ¬ (c : Int) = 38 := by omega
        have hrb : (((r : Nat) : Int) == 2) = false := by simpa using hr2
        have hcb : (((c : Nat) : Int) != 38) = true := by simpa using hcI
        clear HC
        subst hcm
        go_wp2_with fail
        refine ⟨⟨r + 1, w6.heap.size, by omega, rfl, HR8.out, HK8.out, hwB6⟩, ?_⟩
        show 3 - cellN _ (w6.alloc (.cells #[iv (((r + 1 : Nat) : Nat) : Int)] 3)) < _
        rw [HCn8.out, HCn.out]
        omega
    · obtain rfl : r = 3 := by omega
      rw [show ((3 : Nat) : Int) = 3 from rfl] at r1
      have HN := Lib.hid (law_known wr E m (HE.out.keep HKr.out))
      go_wp2_with fail
      (with_reducible refine HN.out.mono ?_)
      rintro e w9 ⟨rfl, hk9⟩
      have HK9 := Lib.hid (Kp.trans Hk.out (Kp.trans HKr.out hk9))
      clear hk9
      go_wp2_with fail
      go_ret
      exact ⟨rfl, HK9.out⟩
end Go.Proofs.YtkmejehhdjdlbaaGreatDoor
