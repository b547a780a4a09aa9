/- The law's known cases hold. Condition: the variables lie there (Env). -/
import Derived.Test.YtkmejehhdjdlbaaGreatDoorKnH
namespace Go.Proofs.YtkmejehhdjdlbaaGreatDoor
open Go.RowKit

set_option maxRecDepth 100000 in
set_option maxHeartbeats 8000000 in
theorem law_known (w : World) (E : Nat → Addr) (m : Int) (hE : Env w E m) : Calls Tryz.prog 21 #[] w fun e w' => e = .returned (.bool true) ∧ Kp w w' := by
  have HE := Lib.hid hE
  have HPa := Lib.hid (parse_nn w hE)
  clear hE
  go_enter Tryz.func21, Tryz.ntmps21
  go_upto_region 2 with (go_at_call 29; go_loud (refine HPa.out.mono ?_); rintro e w1 ⟨hk1, t0, t1, tl, rfl, hP, hP2⟩; unfold tvv; have HP2 := Lib.hid hP2; clear hP2)
  have hk2 := Kp.trans hk1 (Kp.new w1 (.cells #[.string sNN, .slice t0.ao t0.n t0.c, .slice t1.ao t1.n t1.c, .slice tl.ao tl.n tl.c] 26))
  have HF1 := Lib.hid (Four.new w1 (.string sNN) (.slice t0.ao t0.n t0.c) (.slice t1.ao t1.n t1.c) (.slice tl.ao tl.n tl.c) 26)
  have HP1 := Lib.hid (hP.kp (Kp.new w1 (.cells #[.string sNN, .slice t0.ao t0.n t0.c, .slice t1.ao t1.n t1.c, .slice tl.ao tl.n tl.c] 26)))
  generalize hw2 : w1.alloc (.cells #[.string sNN, .slice t0.ao t0.n t0.c, .slice t1.ao t1.n t1.c, .slice tl.ao tl.n tl.c] 26) = w2 at *
  generalize hb1 : w1.heap.size = p1 at *
  clear hw2 hP hk1 hb1
  have HFi := Lib.hid (find_nn w2 (HE.out.keep hk2))
  have Hk2 := Lib.hid hk2
  clear hk2
  go_upto_region 3 with (go_at_call 32; go_loud (refine HFi.out.mono ?_); rintro e w3 ⟨hk3, u0, u1, ul, rfl, hQ, hu0, hu1, hul⟩; unfold tvv; have HU := Lib.hid (And.intro hu0 (And.intro hu1 hul)); clear hu0 hu1 hul)
  have hkA := Kp.trans hk3 (Kp.new w3 (.cells #[.string sNN, .slice u0.ao u0.n u0.c, .slice u1.ao u1.n u1.c, .slice ul.ao ul.n ul.c] 26))
  have hF3 := Four.new w3 (.string sNN) (.slice u0.ao u0.n u0.c) (.slice u1.ao u1.n u1.c) (.slice ul.ao ul.n ul.c) 26
  have HP3 := Lib.hid (hQ.kp (Kp.new w3 (.cells #[.string sNN, .slice u0.ao u0.n u0.c, .slice u1.ao u1.n u1.c, .slice ul.ao ul.n ul.c] 26)))
  generalize hw4 : w3.alloc (.cells #[.string sNN, .slice u0.ao u0.n u0.c, .slice u1.ao u1.n u1.c, .slice ul.ao ul.n ul.c] 26) = w4 at *
  generalize hb3 : w3.heap.size = p3 at *
  have HF1b := Lib.hid (HF1.out.kp hkA)
  have HP1b := Lib.hid (HP1.out.kp hkA)
  have Hk4 := Lib.hid (Kp.trans Hk2.out hkA)
  have HF3 := Lib.hid hF3
  clear hw4 hQ hk3 hb3 HF1 HP1 hkA
  obtain ⟨y0, y1, y2, y3, z0, z1, z2, z3⟩ := hF3
  clear z0 z1 z2 z3
  have HPr := Lib.hid (print_nn w4 (HE.out.keep Hk4.out) u0.ao u1.ao ul.ao u0.n u0.c u1.n u1.c ul.n ul.c HP3.out)
  go_upto_region 4 with (go_at_call 27; go_loud (refine HPr.out.mono ?_); rintro e w5 ⟨hk5, rfl⟩)
  have hF5 := HF3.out.kp hk5
  clear y0 y1 y2 y3
  obtain ⟨y0, y1, y2, y3, z0, z1, z2, z3⟩ := hF5
  clear z0 z1 z2 z3
  have hkB := Kp.trans hk5 (Kp.new w5 (.cells #[.string sPs] 9))
  have hcp : (w5.alloc (.cells #[.string sPs] 9)).cell? ⟨w5.heap.size, 0, none⟩ = some (.string sPs) := by rw [World.cell?_alloc_at _ _ _ _ rfl]; rfl
  have HMo := Lib.hid (mod_nn (w5.alloc (.cells #[.string sPs] 9)) (HE.out.keep (Kp.trans Hk4.out hkB)) u0.ao u1.ao ul.ao u0.n u0.c u1.n u1.c ul.n ul.c (HP3.out.kp hkB) HU.out.1 HU.out.2.1 HU.out.2.2 w5.heap.size hcp)
  have HkB := Lib.hid hkB
  clear hk5 hkB hcp
  go_upto_region 5 with (go_at_call 19; go_loud (refine HMo.out.mono ?_); rintro e w6 ⟨hk6, m0, m1, mf, md, ms, D, rfl, hD⟩; obtain ⟨sa, sn, sc, hsub⟩ : ∃ sa sn sc, subT mf D.length = ⟨sa, sn, sc⟩ := ⟨_, _, _, rfl⟩; rw [hsub]; have Hsub := Lib.hid hsub; clear hsub; unfold tvv)
  have hD6 := hD.pat (by decide) (by decide)
  rw [Hsub.out] at hD6
  simp only at hD6
  have hk7 := Kp.new w6 (.cells #[.string sQ, .slice m0.ao m0.n m0.c, .slice m1.ao m1.n m1.c, .slice sa sn sc] 26)
  have HF7 := Lib.hid (Four.new w6 (.string sQ) (.slice m0.ao m0.n m0.c) (.slice m1.ao m1.n m1.c) (.slice sa sn sc) 26)
  have HP7 := Lib.hid (hD6.kp hk7)
  have HK7 := Lib.hid (Kp.trans (Kp.trans HkB.out hk6) hk7)
  generalize hw7 : w6.alloc (.cells #[.string sQ, .slice m0.ao m0.n m0.c, .slice m1.ao m1.n m1.c, .slice sa sn sc] 26) = w7 at *
  generalize hb7 : w6.heap.size = p7 at *
  clear hw7 hb7 hD hD6 hk6 hk7 y0 y1 y2 y3 HMo HPr HFi HPa
  have HN1 := Lib.hid (find_nn1 w7 (HE.out.keep (Kp.trans Hk4.out HK7.out)))
  go_upto_region 6 with (go_at_call 32; go_loud (refine HN1.out.mono ?_); rintro e w8 ⟨hk8, rfl⟩)
  have HKx := Lib.hid (Kp.trans hk8 (Kp.new w8 (.cells #[.string ⟨#[]⟩, .slice none 0 0, .slice none 0 0, .slice none 0 0] 26)))
  generalize hwx : w8.alloc (.cells #[.string ⟨#[]⟩, .slice none 0 0, .slice none 0 0, .slice none 0 0] 26) = wx at *
  clear hwx hk8
  have hOc := One1.new wx (iv 0) 3
  have hky := Kp.new wx (.cells #[iv 0] 3)
  have hFive := Lib.hid (five_any wx (wx.alloc (.cells #[iv 0] 3)) E m (HE.out.keep (Kp.trans (Kp.trans Hk4.out HK7.out) HKx.out)) hky wx.heap.size (Nat.le_refl _) (by rw [World.size_alloc]; omega) hOc)
  have HAf := Lib.hid (all_fn (wx.alloc (.cells #[iv 0] 3)))
  clear hOc hky
  go_upto_region 8 with fail
  (with_reducible refine HAf.out.mono ?_)
  rintro e wy ⟨rfl, rfl⟩
  have hqf : ∀ w, (binOp .eql 56 (.func (.func 78) #[] #[]) .nilFunc).run Tryz.prog w = .ok (.bool false) w := fun _ => by kernel_rfl
  go_upto_region 11 with fail
  (with_reducible refine hFive.out.mono ?_)
  rintro e wz ⟨rfl, hO5, hF5⟩
  go_upto_region 11 with fail
  have hkz : Kp wx wz := kp_step' (Kp.new wx (.cells #[iv 0] 3)) hF5 (by simp)
  have HKz := Lib.hid (Kp.trans HKx.out hkz)
  have HKw := Lib.hid (Kp.trans HK7.out HKz.out)
  have HO5 := Lib.hid hO5
  clear hkz hF5 hO5 hqf hFive HAf HN1 HKx
  generalize wx.heap.size = p11 at *
  refine any_start (by kernel_rfl) ?_
  obtain ⟨wd, hwd⟩ : ∃ wd, wd = wz.drew := ⟨_, rfl⟩
  have hkd : Kp wz wd := hwd ▸ (⟨rfl, rfl, rfl, Nat.le_refl _, fun _ _ => rfl⟩ : Kp wz wz.drew)
  rw [← hwd]
  obtain ⟨x0, x1, x2, x3, _, _, _, _⟩ := HF1b.out.kp (Kp.trans HKw.out hkd)
  obtain ⟨y0, y1, y2, y3, _, _, _, _⟩ := HF3.out.kp (Kp.trans HKw.out hkd)
  have HPA := Lib.hid (HP1b.out.kp (Kp.trans HKw.out hkd))
  have HPB := Lib.hid (HP3.out.kp (Kp.trans HKw.out hkd))
  have HPC := Lib.hid (HP7.out.kp (Kp.trans HKz.out hkd))
  have HFC := Lib.hid (HF7.out.kp (Kp.trans HKz.out hkd))
  have HO6 := Lib.hid (HO5.out.kp hkd)
  have HEd := Lib.hid (HE.out.keep (Kp.trans (Kp.trans Hk4.out HKw.out) hkd))
  have HKd := Lib.hid (Kp.trans (Kp.trans Hk4.out HKw.out) hkd)
  clear hwd hkd HF1b HF3 HP1b HP3 HP7 HF7 HO5 HKz HKw HK7 HkB Hk4 Hk2
  refine any_ones [0, 1, 2, 3, 4, 5, 6, 7, 8, 9, 10, 11, 12, 13, 14, 15, 16, 17] (by kernel_rfl) ?_
  simp only [opsAt, List.getElem?_toArray]
  have HF1d := Lib.hid (⟨x0, x1, x2, x3, by assumption, by assumption, by assumption, by assumption⟩ : Four wd p1 _ _ _ _)
  have HF3d := Lib.hid (⟨y0, y1, y2, y3, by assumption, by assumption, by assumption, by assumption⟩ : Four wd p3 _ _ _ _)
  go_wp2_with fail
  have HSm := Lib.hid (same_yes wd sNN t0.ao t1.ao tl.ao u0.ao u1.ao ul.ao t0.n t0.c t1.n t1.c tl.n tl.c u0.n u0.c u1.n u1.c ul.n ul.c [] [] nnL HPA.out HPB.out)
  obtain rfl : sn = 2 := HPC.out.il.1.symm
  refine any_lit 60 #[true, true, true, true, true, true, true, true, true, true, true, true, true, true, true, true, true, true, false, false, false, false, false, false, false, false, false, false, false, false, false, false, false, false, false, false, false, false, false, false, false, false, false, false, false, false, false, false, false, false, false, false, false, false, false, false, false, false, false, false, false, false, false, false, false, false, false, false, false, false, false, false, false, false, false, false, false, false] (by kernel_rfl) ?_
  refine any_pair (n := 58) 18 19 (.agg #[.string sNN, .slice t0.ao t0.n t0.c, .slice t1.ao t1.n t1.c, .slice tl.ao tl.n tl.c]) (.agg #[.string sNN, .slice u0.ao u0.n u0.c, .slice u1.ao u1.n u1.c, .slice ul.ao ul.n ul.c]) rfl rfl (by kernel_rfl) (by kernel_rfl) (by kernel_rfl) (by kernel_rfl) (by kernel_rfl) (exec_load26 HF1d.out rfl rfl) (exec_load26 HF3d.out rfl rfl) (exec_load26 HF1d.out rfl rfl) (exec_load26 HF3d.out rfl rfl) rfl ?_
  simp only [Act.put, List.setIfInBounds_toArray, List.set_cons_zero, List.set_cons_succ]
  refine any_lit 58 #[true, true, true, true, true, true, true, true, true, true, true, true, true, true, true, true, true, true, true, true, false, false, false, false, false, false, false, false, false, false, false, false, false, false, false, false, false, false, false, false, false, false, false, false, false, false, false, false, false, false, false, false, false, false, false, false, false, false, false, false, false, false, false, false, false, false, false, false, false, false, false, false, false, false, false, false, false, false] (by kernel_rfl) ?_
  refine any_ones [20, 21, 22, 23, 24, 25, 26, 27, 28, 29, 30, 31, 32, 33, 34, 35, 36, 37, 38, 39, 40, 41, 42] (by kernel_rfl) ?_
  simp only [opsAt, List.getElem?_toArray, List.getElem?_cons_zero, List.getElem?_cons_succ]
  go_wp2_with fail
  (with_reducible refine HSm.out.mono ?_)
  rintro e w9 ⟨rfl, hk9⟩
  have Hk9 := Lib.hid hk9
  clear x0 x1 x2 x3 y0 y1 y2 y3
  obtain ⟨x0, x1, x2, x3, _, _, _, _⟩ := HF1d.out.kp Hk9.out
  obtain ⟨z0, z1, z2, z3, _, _, _, _⟩ := HFC.out.kp Hk9.out
  have hP2 := HP2.out
  clear hk9
  go_wp2_with fail
  clear hP2
  refine any_lit 35 #[true, true, true, true, true, true, true, true, true, true, true, true, true, true, true, true, true, true, true, true, true, true, true, true, true, true, true, true, true, true, true, true, true, true, true, true, true, true, true, true, true, true, true, false, false, false, false, false, false, false, false, false, false, false, false, false, false, false, false, false, false, false, false, false, false, false, false, false, false, false, false, false, false, false, false, false, false, false] (by kernel_rfl) ?_
  refine any_ops ops21 (by kernel_rfl) ?_
  refine known_half w9 E m (HEd.out.keep Hk9.out) p7 p11 m0 m1 sa sc (HFC.out.kp Hk9.out) (HPC.out.kp Hk9.out) (HO6.out.kp Hk9.out) _ _ _ _ _ _ _ _ _ _ _ _ _ _ _ _ _ _ _ _ _ _ _ _ _ _ _ _ _ _ _ _ _ _ _ _ _ _ _ _ _ _ _ _ _ _ _ _ _ _ _ _ _ _ _ _ _ _ _ _ _ _ _ _ _ _ _ _ _ _ _ _ _ _ _ _ _ _ _ _ _ _ _ _ _ _ _ _ _ _ _ _ _ _ _ _ _ _ _ _ _ _ _ _ _ _ _ _ _ _ _ _ _ _ _ _ _ ?_
  intro a9 w10 h0 hdf hk10
  have HKq := Lib.hid (Kp.trans HKd.out (Kp.trans Hk9.out hk10))
  clear hk10
  go_wp2_with fail
  refine bodyPost_ret (v := .bool true) (by simp [results, Tryz.results21]; simpa using h0) hdf ?_
  exact ⟨rfl, HKq.out⟩
end Go.Proofs.YtkmejehhdjdlbaaGreatDoor
