/- NamingParses, NamingWithin: the laws' functions answer true. Conditions: the variables lie there (Env); the text's length. -/
import Derived.Test.YtbdphdgomcabmaaGreatDoorAwk
namespace Go.Proofs.YtbdphdgomcabmaaGreatDoor
open Go.RowKit

set_option maxRecDepth 100000 in
set_option maxHeartbeats 4000000 in
theorem nparses_true (w : World) (E : Nat → Addr) (m : Int) (hE : Env w E m) (s : ByteArray) (hsz : s.size ≤ 9223372036854775807) : Calls Tryz.prog 3 #[.string s] w fun e w' => e = .returned (.bool true) ∧ Kp w w' := by
  have HE := Lib.hid hE
  clear hE
  go_enter Tryz.func3, Tryz.ntmps3
  have HP := Lib.hid (parseN_any w E m (HE.out.keep (Kp.refl w)) s)
  have HR := Lib.hid (fun v : World => rparseN_any v s (by exact hsz))
  unfold NmPost at HP HR
  generalize nmD (s).data.toList = X at HP HR
  obtain ⟨nm, b0, b1, ls, has⟩ := X
  simp only at HP HR
  go_wp2_with fail
  (with_reducible refine HP.out.mono ?_)
  rintro e w1 ⟨hk1, t0, t1, tl, rfl, hP1⟩
  unfold tvv
  have hk2 := Kp.new w1 (.cells #[.string nm, .slice t0.ao t0.n t0.c, .slice t1.ao t1.n t1.c, .slice tl.ao tl.n tl.c] 26)
  have HF1 := Lib.hid (Four.new w1 (.string nm) (.slice t0.ao t0.n t0.c) (.slice t1.ao t1.n t1.c) (.slice tl.ao tl.n tl.c) 26)
  have HP1 := Lib.hid (hP1.kp hk2)
  have HK2 := Lib.hid (Kp.trans (Kp.refl w) (Kp.trans hk1 hk2))
  clear hk1 hk2 hP1 HP
  go_upto_region 2 with fail
  generalize w1.alloc (.cells #[.string nm, .slice t0.ao t0.n t0.c, .slice t1.ao t1.n t1.c, .slice tl.ao tl.n tl.c] 26) = w2 at *
  generalize w1.heap.size = p1 at *
  have HC := Lib.hid (HR.out w2)
  clear HR
  go_wp2_with fail
  (with_reducible refine HC.out.mono ?_)
  rintro e w3 ⟨hk3, u0, u1, ul, rfl, hP3⟩
  unfold tvv
  have hk4 := Kp.new w3 (.cells #[.string nm, .slice u0.ao u0.n u0.c, .slice u1.ao u1.n u1.c, .slice ul.ao ul.n ul.c] 26)
  have hF3 := Four.new w3 (.string nm) (.slice u0.ao u0.n u0.c) (.slice u1.ao u1.n u1.c) (.slice ul.ao ul.n ul.c) 26
  have HP3 := Lib.hid (hP3.kp hk4)
  have hk34 := Kp.trans hk3 hk4
  clear hk3 hP3 hk4 HC
  go_upto_region 3 with fail
  generalize w3.alloc (.cells #[.string nm, .slice u0.ao u0.n u0.c, .slice u1.ao u1.n u1.c, .slice ul.ao ul.n ul.c] 26) = w4 at *
  generalize w3.heap.size = p3 at *
  have hF1 := HF1.out.kp hk34
  have HPA := Lib.hid (HP1.out.kp hk34)
  have HK4 := Lib.hid (Kp.trans HK2.out hk34)
  clear HF1 HP1 hk34 HK2
  obtain ⟨x0, x1, x2, x3, _, _, _, _⟩ := hF1
  obtain ⟨y0, y1, y2, y3, _, _, _, _⟩ := hF3
  have HCd := Lib.hid (codeN_any w4 E m (HE.out.keep HK4.out) has)
  have HS := Lib.hid (same_yes w4 nm t0.ao t1.ao tl.ao u0.ao u1.ao ul.ao t0.n t0.c t1.n t1.c tl.n tl.c u0.n u0.c u1.n u1.c ul.n ul.c b0 b1 ls HPA.out HP3.out)
  cases has with
  | true =>
    simp only [if_true] at HCd
    unfold errN
    go_wp2_with fail
    (with_reducible refine HCd.out.mono ?_)
    rintro e wv ⟨rfl, rfl⟩
    go_wp2_with fail
    (with_reducible refine HS.out.mono ?_)
    rintro e w5 ⟨rfl, hk5⟩
    have HN := Lib.hid (awake_any w5 E m (HE.out.keep (Kp.trans HK4.out hk5)))
    have HK5 := Lib.hid (Kp.trans HK4.out hk5)
    clear hk5 x0 x1 x2 x3 y0 y1 y2 y3 HS HCd
    go_wp2_with fail
    (with_reducible refine HN.out.mono ?_)
    rintro e w6 ⟨rfl, hk6⟩
    have HK6 := Lib.hid (Kp.trans HK5.out hk6)
    clear hk6
    go_wp2_with fail
    go_ret
    exact ⟨rfl, HK6.out⟩
  | false =>
    simp only [Bool.false_eq_true, if_false] at HCd
    unfold errN
    go_wp2_with fail
    (with_reducible refine HCd.out.mono ?_)
    rintro e wv ⟨rfl, rfl⟩
    go_wp2_with fail
    (with_reducible refine HS.out.mono ?_)
    rintro e w5 ⟨rfl, hk5⟩
    have HN := Lib.hid (awake_any w5 E m (HE.out.keep (Kp.trans HK4.out hk5)))
    have HK5 := Lib.hid (Kp.trans HK4.out hk5)
    clear hk5 x0 x1 x2 x3 y0 y1 y2 y3 HS HCd
    go_wp2_with fail
    (with_reducible refine HN.out.mono ?_)
    rintro e w6 ⟨rfl, hk6⟩
    have HK6 := Lib.hid (Kp.trans HK5.out hk6)
    clear hk6
    go_wp2_with fail
    go_ret
    exact ⟨rfl, HK6.out⟩
set_option maxRecDepth 100000 in
set_option maxHeartbeats 4000000 in
theorem nwithin_true (w : World) (E : Nat → Addr) (m : Int) (hE : Env w E m) (full : ByteArray) : Calls Tryz.prog 4 #[.string full] w fun e w' => e = .returned (.bool true) ∧ Kp w w' := by
  have HE := Lib.hid hE
  clear hE
  by_cases h1 : 1000 < full.size
  · have h1I : (1000 : Int) < (full.size : Nat) := by omega
    have HN := Lib.hid (awake_any w E m HE.out)
    go_enter Tryz.func4, Tryz.ntmps4
    go_wp2_with fail
    (with_reducible refine HN.out.mono ?_)
    rintro e w6 ⟨rfl, hk6⟩
    have HK6 := Lib.hid hk6
    clear hk6
    go_wp2_with fail
    go_ret
    exact ⟨rfl, HK6.out⟩
  · have h1I : ¬ (1000 : Int) < (full.size : Nat) := by omega
    have h1N : full.size ≤ 1000 := by omega
    have hq1 : (⟨#[78, 111, 105, 115, 101, 95]⟩ : ByteArray).size = 6 := rfl
    have hq2 : (⟨#[95, 50, 53, 53, 49, 57, 95, 67, 104, 97, 67, 104, 97, 80, 111, 108, 121, 95, 66, 76, 65, 75, 69, 50, 115]⟩ : ByteArray).size = 25 := rfl
    have hq3 : (⟨#[78, 111, 105, 115, 101, 95]⟩ ++ full : ByteArray).size = 6 + full.size := by rw [ByteArray.size_append]; rfl
    have hq4 : (⟨#[78, 111, 105, 115, 101, 95]⟩ ++ full ++ ⟨#[95, 50, 53, 53, 49, 57, 95, 67, 104, 97, 67, 104, 97, 80, 111, 108, 121, 95, 66, 76, 65, 75, 69, 50, 115]⟩).size = 31 + full.size := by rw [ByteArray.size_append, hq3, hq2]; omega
    have hq5 : (⟨#[78, 111, 105, 115, 101, 95]⟩ : ByteArray).size + full.size ≤ 1006 := by omega
    have hq6 : (⟨#[78, 111, 105, 115, 101, 95]⟩ ++ full : ByteArray).size + (⟨#[95, 50, 53, 53, 49, 57, 95, 67, 104, 97, 67, 104, 97, 80, 111, 108, 121, 95, 66, 76, 65, 75, 69, 50, 115]⟩ : ByteArray).size ≤ 1031 := by omega
    have Hq4 := Lib.hid hq4
    clear hq1 hq2 hq3 hq4
    go_enter Tryz.func4, Tryz.ntmps4
    have HP := Lib.hid (parseN_any w E m (HE.out.keep (Kp.refl w)) (⟨#[78, 111, 105, 115, 101, 95]⟩ ++ full ++ ⟨#[95, 50, 53, 53, 49, 57, 95, 67, 104, 97, 67, 104, 97, 80, 111, 108, 121, 95, 66, 76, 65, 75, 69, 50, 115]⟩))
    have HR := Lib.hid (fun v : World => rparseN_any v (⟨#[78, 111, 105, 115, 101, 95]⟩ ++ full ++ ⟨#[95, 50, 53, 53, 49, 57, 95, 67, 104, 97, 67, 104, 97, 80, 111, 108, 121, 95, 66, 76, 65, 75, 69, 50, 115]⟩) (by rw [Hq4.out]; omega))
    unfold NmPost at HP HR
    generalize nmD ((⟨#[78, 111, 105, 115, 101, 95]⟩ ++ full ++ ⟨#[95, 50, 53, 53, 49, 57, 95, 67, 104, 97, 67, 104, 97, 80, 111, 108, 121, 95, 66, 76, 65, 75, 69, 50, 115]⟩)).data.toList = X at HP HR
    obtain ⟨nm, b0, b1, ls, has⟩ := X
    simp only at HP HR
    go_wp2_with fail
    (with_reducible refine HP.out.mono ?_)
    rintro e w1 ⟨hk1, t0, t1, tl, rfl, hP1⟩
    unfold tvv
    have hk2 := Kp.new w1 (.cells #[.string nm, .slice t0.ao t0.n t0.c, .slice t1.ao t1.n t1.c, .slice tl.ao tl.n tl.c] 26)
    have HF1 := Lib.hid (Four.new w1 (.string nm) (.slice t0.ao t0.n t0.c) (.slice t1.ao t1.n t1.c) (.slice tl.ao tl.n tl.c) 26)
    have HP1 := Lib.hid (hP1.kp hk2)
    have HK2 := Lib.hid (Kp.trans (Kp.refl w) (Kp.trans hk1 hk2))
    clear hk1 hk2 hP1 HP
    go_upto_region 4 with fail
    generalize w1.alloc (.cells #[.string nm, .slice t0.ao t0.n t0.c, .slice t1.ao t1.n t1.c, .slice tl.ao tl.n tl.c] 26) = w2 at *
    generalize w1.heap.size = p1 at *
    have HC := Lib.hid (HR.out w2)
    clear HR
    go_wp2_with fail
    (with_reducible refine HC.out.mono ?_)
    rintro e w3 ⟨hk3, u0, u1, ul, rfl, hP3⟩
    unfold tvv
    have hk4 := Kp.new w3 (.cells #[.string nm, .slice u0.ao u0.n u0.c, .slice u1.ao u1.n u1.c, .slice ul.ao ul.n ul.c] 26)
    have hF3 := Four.new w3 (.string nm) (.slice u0.ao u0.n u0.c) (.slice u1.ao u1.n u1.c) (.slice ul.ao ul.n ul.c) 26
    have HP3 := Lib.hid (hP3.kp hk4)
    have hk34 := Kp.trans hk3 hk4
    clear hk3 hP3 hk4 HC
    go_upto_region 5 with fail
    generalize w3.alloc (.cells #[.string nm, .slice u0.ao u0.n u0.c, .slice u1.ao u1.n u1.c, .slice ul.ao ul.n ul.c] 26) = w4 at *
    generalize w3.heap.size = p3 at *
    have hF1 := HF1.out.kp hk34
    have HPA := Lib.hid (HP1.out.kp hk34)
    have HK4 := Lib.hid (Kp.trans HK2.out hk34)
    clear HF1 HP1 hk34 HK2
    obtain ⟨x0, x1, x2, x3, _, _, _, _⟩ := hF1
    obtain ⟨y0, y1, y2, y3, _, _, _, _⟩ := hF3
    have HCd := Lib.hid (codeN_any w4 E m (HE.out.keep HK4.out) has)
    have HS := Lib.hid (same_yes w4 nm t0.ao t1.ao tl.ao u0.ao u1.ao ul.ao t0.n t0.c t1.n t1.c tl.n tl.c u0.n u0.c u1.n u1.c ul.n ul.c b0 b1 ls HPA.out HP3.out)
    cases has with
    | true =>
      simp only [if_true] at HCd
      unfold errN
      go_wp2_with fail
      (with_reducible refine HCd.out.mono ?_)
      rintro e wv ⟨rfl, rfl⟩
      go_wp2_with fail
      (with_reducible refine HS.out.mono ?_)
      rintro e w5 ⟨rfl, hk5⟩
      have HN := Lib.hid (awake_any w5 E m (HE.out.keep (Kp.trans HK4.out hk5)))
      have HK5 := Lib.hid (Kp.trans HK4.out hk5)
      clear hk5 x0 x1 x2 x3 y0 y1 y2 y3 HS HCd
      go_wp2_with fail
      (with_reducible refine HN.out.mono ?_)
      rintro e w6 ⟨rfl, hk6⟩
      have HK6 := Lib.hid (Kp.trans HK5.out hk6)
      clear hk6
      go_wp2_with fail
      go_ret
      exact ⟨rfl, HK6.out⟩
    | false =>
      simp only [Bool.false_eq_true, if_false] at HCd
      unfold errN
      go_wp2_with fail
      (with_reducible refine HCd.out.mono ?_)
      rintro e wv ⟨rfl, rfl⟩
      go_wp2_with fail
      (with_reducible refine HS.out.mono ?_)
      rintro e w5 ⟨rfl, hk5⟩
      have HN := Lib.hid (awake_any w5 E m (HE.out.keep (Kp.trans HK4.out hk5)))
      have HK5 := Lib.hid (Kp.trans HK4.out hk5)
      clear hk5 x0 x1 x2 x3 y0 y1 y2 y3 HS HCd
      go_wp2_with fail
      (with_reducible refine HN.out.mono ?_)
      rintro e w6 ⟨rfl, hk6⟩
      have HK6 := Lib.hid (Kp.trans HK5.out hk6)
      clear hk6
      go_wp2_with fail
      go_ret
      exact ⟨rfl, HK6.out⟩
end Go.Proofs.YtbdphdgomcabmaaGreatDoor
