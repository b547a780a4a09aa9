/- NamingBack: the law's function answers true. Conditions: the variables lie there (Env); the text's length. -/
import Derived.Test.YtbdphdgomcabmaaGreatDoorLawPb
namespace Go.Proofs.YtbdphdgomcabmaaGreatDoor
open Go.RowKit

theorem nm_false {x : Q.Bt} {nm : ByteArray} {b0 b1 : List Int} {ls : List Ln} (h : nmD x = (nm, b0, b1, ls, false)) : nm = ⟨#[]⟩ ∧ b0 = [] ∧ b1 = [] ∧ ls = [] := by
  unfold nmD at h
  split at h
  · cases h; exact ⟨rfl, rfl, rfl, rfl⟩
  · cases h
set_option maxRecDepth 100000 in
set_option maxHeartbeats 8000000 in
theorem nback_true (w : World) (E : Nat → Addr) (m : Int) (hE : Env w E m) (full : ByteArray) (hs : full.size ≤ 140737488351232) : Calls Tryz.prog 9 #[.string full] w fun e w' => e = .returned (.bool true) ∧ Kp w w' := by
  have HE := Lib.hid hE
  clear hE
  by_cases h1 : 1000 < full.size
  · have h1I : (1000 : Int) < (full.size : Nat) := by omega
    have HN := Lib.hid (awake_any w E m HE.out)
    go_enter Tryz.func9, Tryz.ntmps9
    go_wp2_with fail
    (with_reducible refine HN.out.mono ?_)
    rintro e w6 ⟨rfl, hk6⟩
    have HK6 := Lib.hid hk6
    clear hk6
    go_wp2_with fail
    go_ret
    exact ⟨rfl, HK6.out⟩
  · have h1I : ¬ (1000 : Int) < (full.size : Nat) := by omega
    have h1N : full.size ≤ 1000 := by omega
    have hq1 : (⟨#[78, 111, 105, 115, 101, 95]⟩ : ByteArray).size = 6 := rfl
    have hq2 : (⟨#[95, 50, 53, 53, 49, 57, 95, 67, 104, 97, 67, 104, 97, 80, 111, 108, 121, 95, 66, 76, 65, 75, 69, 50, 115]⟩ : ByteArray).size = 25 := rfl
    have hq3 : (⟨#[78, 111, 105, 115, 101, 95]⟩ ++ full : ByteArray).size = 6 + full.size := by rw [ByteArray.size_append]; rfl
    have hq4 : (⟨#[78, 111, 105, 115, 101, 95]⟩ ++ full ++ ⟨#[95, 50, 53, 53, 49, 57, 95, 67, 104, 97, 67, 104, 97, 80, 111, 108, 121, 95, 66, 76, 65, 75, 69, 50, 115]⟩).size = 31 + full.size := by rw [ByteArray.size_append, hq3, hq2]; omega
    have hq5 : (⟨#[78, 111, 105, 115, 101, 95]⟩ : ByteArray).size + full.size ≤ 140737488351300 := by omega
    have hq6 : (⟨#[78, 111, 105, 115, 101, 95]⟩ ++ full : ByteArray).size + (⟨#[95, 50, 53, 53, 49, 57, 95, 67, 104, 97, 67, 104, 97, 80, 111, 108, 121, 95, 66, 76, 65, 75, 69, 50, 115]⟩ : ByteArray).size ≤ 140737488351300 := by omega
    have Hq4 := Lib.hid hq4
    clear hq1 hq2 hq3 hq4
    clear Hq4
    have HP := Lib.hid (parseN_any w E m HE.out (⟨#[78, 111, 105, 115, 101, 95]⟩ ++ full ++ ⟨#[95, 50, 53, 53, 49, 57, 95, 67, 104, 97, 67, 104, 97, 80, 111, 108, 121, 95, 66, 76, 65, 75, 69, 50, 115]⟩))
    have HPr := Lib.hid (fun (v : World) (hv : Kp w v) => prE_any v E m (HE.out.keep hv) full hs)
    obtain ⟨X, hX⟩ : ∃ X, nmD (⟨#[78, 111, 105, 115, 101, 95]⟩ ++ full ++ ⟨#[95, 50, 53, 53, 49, 57, 95, 67, 104, 97, 67, 104, 97, 80, 111, 108, 121, 95, 66, 76, 65, 75, 69, 50, 115]⟩).data.toList = X := ⟨_, rfl⟩
    rw [hX] at HP HPr
    obtain ⟨nm, b0, b1, ls, has⟩ := X
    simp only at HPr
    cases has with
    | false =>
      obtain ⟨rfl, rfl, rfl, rfl⟩ := nm_false hX
      clear hX
      unfold NmPost at HP
      simp only [errN, Bool.false_eq_true, if_false] at HP
      unfold PrP at HPr
      simp only at HPr
      go_enter Tryz.func9, Tryz.ntmps9
      go_wp2_with fail
      (with_reducible refine HP.out.mono ?_)
      rintro e w1 ⟨hk1, t0, t1, tl, rfl, hP1⟩
      unfold tvv
      have hn : tl.n = 0 := by rw [← hP1.il.1]; rfl
      obtain ⟨tla, tln, tlc⟩ := tl
      simp only at hn ⊢
      subst hn
      have hk2 := Kp.new w1 (.cells #[.string ⟨#[]⟩, .slice t0.ao t0.n t0.c, .slice t1.ao t1.n t1.c, .slice tla 0 tlc] 26)
      have HF := Lib.hid (Four.new w1 (.string ⟨#[]⟩) (.slice t0.ao t0.n t0.c) (.slice t1.ao t1.n t1.c) (.slice tla 0 tlc) 26)
      have HK2 := Lib.hid (Kp.trans hk1 hk2)
      clear hk1 hk2 hP1 HP
      go_upto_region 4 with fail
      generalize w1.alloc (.cells #[.string ⟨#[]⟩, .slice t0.ao t0.n t0.c, .slice t1.ao t1.n t1.c, .slice tla 0 tlc] 26) = w2 at *
      generalize w1.heap.size = bp at *
      have HC := Lib.hid (HPr.out w2 HK2.out)
      clear HPr
      go_wp2_with fail
      (with_reducible refine HC.out.mono ?_)
      rintro e w3 ⟨hk3, rfl⟩
      have HK3 := Lib.hid (Kp.trans HK2.out hk3)
      obtain ⟨y0, y1, y2, y3, _, _, _, _⟩ := HF.out.kp hk3
      have hc := (HE.out.keep HK3.out).c13
      have es := eq_same w3 (E 13)
      have HN := Lib.hid (awake_any w3 E m (HE.out.keep HK3.out))
      clear hk3 HC
      go_wp2_with fail
      (with_reducible refine HN.out.mono ?_)
      rintro e w9 ⟨rfl, hk9⟩
      have HK9 := Lib.hid (Kp.trans HK3.out hk9)
      clear hk9
      go_wp2_with fail
      go_ret
      exact ⟨rfl, HK9.out⟩
    | true =>
      obtain ⟨rfl, hck⟩ := nm_fine hX
      have Hck := Lib.hid hck
      have HX := Lib.hid hX
      clear hX hck
      unfold NmPost at HP
      simp only [errN, if_true] at HP
      unfold PrP at HPr
      simp only at HPr
      go_enter Tryz.func9, Tryz.ntmps9
      go_wp2_with fail
      (with_reducible refine HP.out.mono ?_)
      rintro e w1 ⟨hk1, t0, t1, tl, rfl, hP1⟩
      unfold tvv
      have hk2 := Kp.new w1 (.cells #[.string nm, .slice t0.ao t0.n t0.c, .slice t1.ao t1.n t1.c, .slice tl.ao tl.n tl.c] 26)
      have HF := Lib.hid (Four.new w1 (.string nm) (.slice t0.ao t0.n t0.c) (.slice t1.ao t1.n t1.c) (.slice tl.ao tl.n tl.c) 26)
      have HP1 := Lib.hid (hP1.kp hk2)
      have HK2 := Lib.hid (Kp.trans hk1 hk2)
      clear hk1 hk2 hP1 HP
      go_upto_region 4 with fail
      generalize w1.alloc (.cells #[.string nm, .slice t0.ao t0.n t0.c, .slice t1.ao t1.n t1.c, .slice tl.ao tl.n tl.c] 26) = w2 at *
      generalize w1.heap.size = bp at *
      have HC := Lib.hid (HPr.out w2 HK2.out)
      clear HPr
      go_wp2_with fail
      (with_reducible refine HC.out.mono ?_)
      rintro e w3 ⟨hk3, rfl⟩
      have HK3 := Lib.hid (Kp.trans HK2.out hk3)
      have HF3 := Lib.hid (HF.out.kp hk3)
      have HP3 := Lib.hid (HP1.out.kp hk3)
      clear hk3 HC HF HP1
      have HQ := Lib.hid (parseN_any w3 E m (HE.out.keep HK3.out) (⟨#[78, 111, 105, 115, 101, 95]⟩ ++ nm ++ ⟨#[95, 50, 53, 53, 49, 57, 95, 67, 104, 97, 67, 104, 97, 80, 111, 108, 121, 95, 66, 76, 65, 75, 69, 50, 115]⟩))
      unfold NmPost at HQ
      rw [HX.out] at HQ
      simp only [errN, if_true] at HQ
      go_wp2_with fail
      (with_reducible refine HQ.out.mono ?_)
      rintro e w4 ⟨hk4, u0, u1, ul, rfl, hP4⟩
      unfold tvv
      have hk5 := Kp.new w4 (.cells #[.string nm, .slice u0.ao u0.n u0.c, .slice u1.ao u1.n u1.c, .slice ul.ao ul.n ul.c] 26)
      have HF5 := Lib.hid (Four.new w4 (.string nm) (.slice u0.ao u0.n u0.c) (.slice u1.ao u1.n u1.c) (.slice ul.ao ul.n ul.c) 26)
      have HP5 := Lib.hid (hP4.kp hk5)
      have hk45 := Kp.trans hk4 hk5
      have HG := Lib.hid (HF3.out.kp hk45)
      have HPA := Lib.hid (HP3.out.kp hk45)
      have HK5 := Lib.hid (Kp.trans HK3.out hk45)
      clear hk4 hk5 hk45 hP4 HQ HF3 HP3
      go_upto_region 8 with fail
      generalize w4.alloc (.cells #[.string nm, .slice u0.ao u0.n u0.c, .slice u1.ao u1.n u1.c, .slice ul.ao ul.n ul.c] 26) = w5 at *
      generalize w4.heap.size = bq at *
      obtain ⟨x0, x1, x2, x3, _, _, _, _⟩ := HG.out
      obtain ⟨y0, y1, y2, y3, _, _, _, _⟩ := HF5.out
      have hnb : ((⟨#[78, 111, 105, 115, 101, 95]⟩ ++ nm ++ ⟨#[95, 50, 53, 53, 49, 57, 95, 67, 104, 97, 67, 104, 97, 80, 111, 108, 121, 95, 66, 76, 65, 75, 69, 50, 115]⟩).toList == (⟨#[78, 111, 105, 115, 101, 95]⟩ ++ nm ++ ⟨#[95, 50, 53, 53, 49, 57, 95, 67, 104, 97, 67, 104, 97, 80, 111, 108, 121, 95, 66, 76, 65, 75, 69, 50, 115]⟩).toList) = true := beq_self_eq_true _
      have hnb2 : (nm.toList == nm.toList) = true := beq_self_eq_true _
      have HS := Lib.hid (same_yes w5 nm t0.ao t1.ao tl.ao u0.ao u1.ao ul.ao t0.n t0.c t1.n t1.c tl.n tl.c u0.n u0.c u1.n u1.c ul.n ul.c b0 b1 ls HPA.out HP5.out)
      go_wp2_with fail
      (with_reducible refine HS.out.mono ?_)
      rintro e w6 ⟨rfl, hk6⟩
      have HK6 := Lib.hid (Kp.trans HK5.out hk6)
      have HCk := Lib.hid (check_any w6 E (HE.out.keep HK6.out).errs nm t0.ao t1.ao tl.ao t0.n t0.c t1.n t1.c tl.n tl.c b0 b1 ls (HPA.out.kp hk6).i0 (HPA.out.kp hk6).i1 (HPA.out.kp hk6).il)
      rw [Hck.out, errV_nil] at HCk
      clear x0 x1 x2 x3 y0 y1 y2 y3
      obtain ⟨x0, x1, x2, x3, _, _, _, _⟩ := HG.out.kp hk6
      clear hk6 HS
      go_wp2_with fail
      (with_reducible refine HCk.out.mono ?_)
      rintro e w7 ⟨rfl, hk7⟩
      have HK7 := Lib.hid (Kp.trans HK6.out hk7)
      clear hk7 x0 x1 x2 x3 HCk
      have HN := Lib.hid (awake_any w7 E m (HE.out.keep HK7.out))
      go_wp2_with fail
      (with_reducible refine HN.out.mono ?_)
      rintro e w9 ⟨rfl, hk9⟩
      have HK9 := Lib.hid (Kp.trans HK7.out hk9)
      clear hk9
      go_wp2_with fail
      go_ret
      exact ⟨rfl, HK9.out⟩
end Go.Proofs.YtbdphdgomcabmaaGreatDoor
