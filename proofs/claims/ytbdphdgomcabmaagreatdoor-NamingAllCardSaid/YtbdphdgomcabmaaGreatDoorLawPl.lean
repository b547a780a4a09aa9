/- NamingPlain: the law's function answers true. Conditions: the variables lie there (Env). -/
import Derived.Test.YtbdphdgomcabmaaGreatDoorLawBk
namespace Go.Proofs.YtbdphdgomcabmaaGreatDoor
open Go.RowKit

theorem rangeU (n : Nat) : (65 ≤ n ∧ n ≤ 90) ∨ (48 ≤ n ∧ n ≤ 57) ∨ n < 48 ∨ (57 < n ∧ n < 65) ∨ 90 < n := by omega
theorem all_of {s : ByteArray} (h : ∀ j (h : j < s.size), j < s.size → Q.upB s[j] = true) : s.data.toList.all Q.upB = true := by
  rw [List.all_eq_true]
  intro x hx
  obtain ⟨j, hj, rfl⟩ := List.getElem_of_mem hx
  have hj' : j < s.size := by rw [Lib.size_eq]; exact hj
  exact h j hj' hj'
theorem step_all {s : ByteArray} {i : Nat} (hi : i < s.size) (h : ∀ j (h : j < s.size), j < i → Q.upB s[j] = true) (hu : Q.upB s[i] = true) : ∀ j (h : j < s.size), j < i + 1 → Q.upB s[j] = true := by
  intro j hj h2
  rcases Nat.lt_or_ge j i with q | q
  · exact h j hj q
  · obtain rfl : j = i := by omega
    exact hu
theorem fnd_false {x : Q.Bt} (h : (fnd x).2.2.2.2 = false) : fnd x = (⟨#[]⟩, [], [], [], false) := by
  cases hr : rowOf x with
  | none => exact fnd_none hr
  | some y => rw [fnd_some hr] at h; cases h
/-- A name without words is found by its name alone. -/
theorem nm_plain {full : ByteArray} (h : full.data.toList.all Q.upB = true) (hs : full.size ≤ 60) : nmD (⟨#[78, 111, 105, 115, 101, 95]⟩ ++ full ++ ⟨#[95, 50, 53, 53, 49, 57, 95, 67, 104, 97, 67, 104, 97, 80, 111, 108, 121, 95, 66, 76, 65, 75, 69, 50, 115]⟩).data.toList = fnd full.data.toList := by
  unfold nmD Q.parseN
  rw [nm_list, Q.fullN_of (by rw [← Lib.size_eq]; omega)]
  simp only [Option.bind_some]
  rw [Q.patN_plain h]
  cases hr : rowOf full.data.toList with
  | none =>
    rw [show Q.tableL.find? (fun y => y.1 == full.data.toList) = none from hr, fnd_none hr]; rfl
  | some y =>
    rw [show Q.tableL.find? (fun y => y.1 == full.data.toList) = some y from hr, fnd_some hr]; rfl
set_option maxRecDepth 100000 in
set_option maxHeartbeats 8000000 in
theorem nplain_true (w : World) (E : Nat → Addr) (m : Int) (hE : Env w E m) (full : ByteArray) : Calls Tryz.prog 5 #[.string full] w fun e w' => e = .returned (.bool true) ∧ Kp w w' := by
  have HE := Lib.hid hE
  clear hE
  by_cases h1 : 60 < full.size
  · have h1I : (60 : Int) < (full.size : Nat) := by omega
    have HN := Lib.hid (awake_any w E m HE.out)
    go_enter Tryz.func5, Tryz.ntmps5
    go_wp2_with fail
    (with_reducible refine HN.out.mono ?_)
    rintro e w6 ⟨rfl, hk6⟩
    have HK6 := Lib.hid hk6
    clear hk6
    go_wp2_with fail
    go_ret
    exact ⟨rfl, HK6.out⟩
  · have h1I : ¬ (60 : Int) < (full.size : Nat) := by omega
    have h60 : full.size ≤ 60 := by omega
    have hq1 : (⟨#[78, 111, 105, 115, 101, 95]⟩ : ByteArray).size = 6 := rfl
    have hq2 : (⟨#[95, 50, 53, 53, 49, 57, 95, 67, 104, 97, 67, 104, 97, 80, 111, 108, 121, 95, 66, 76, 65, 75, 69, 50, 115]⟩ : ByteArray).size = 25 := rfl
    have hq3 : (⟨#[78, 111, 105, 115, 101, 95]⟩ ++ full : ByteArray).size = 6 + full.size := by rw [ByteArray.size_append]; rfl
    have hq4 : (⟨#[78, 111, 105, 115, 101, 95]⟩ ++ full ++ ⟨#[95, 50, 53, 53, 49, 57, 95, 67, 104, 97, 67, 104, 97, 80, 111, 108, 121, 95, 66, 76, 65, 75, 69, 50, 115]⟩).size = 31 + full.size := by rw [ByteArray.size_append, hq3, hq2]; omega
    have hq5 : (⟨#[78, 111, 105, 115, 101, 95]⟩ : ByteArray).size + full.size ≤ 140737488351300 := by omega
    have hq6 : (⟨#[78, 111, 105, 115, 101, 95]⟩ ++ full : ByteArray).size + (⟨#[95, 50, 53, 53, 49, 57, 95, 67, 104, 97, 67, 104, 97, 80, 111, 108, 121, 95, 66, 76, 65, 75, 69, 50, 115]⟩ : ByteArray).size ≤ 140737488351300 := by omega
    have Hq4 := Lib.hid hq4
    clear hq1 hq2 hq3 hq4
    clear Hq4
    go_enter Tryz.func5, Tryz.ntmps5
    go_wp2_with fail
    go_loopw [3] (fun iv_ wr => ∃ i : Nat, i ≤ full.size ∧ iv_ = .int .i64 (i : Nat) ∧ Kp w wr ∧ ∀ j (h : j < full.size), j < i → Q.upB full[j] = true) (fun i _ => full.size - (intOf i).toNat)
    case atStart => exact ⟨0, Nat.zero_le _, rfl, Kp.refl _, fun j h h2 => by omega⟩
    case round =>
      obtain ⟨i, hi, rfl, hkr, hall⟩ := hrel
      rename World => wr
      have HKr := Lib.hid hkr
      have Hall0 := Lib.hid hall
      clear hkr hall
      by_cases hlt : i < full.size
      · have hii : ((i : Nat) : Int) < (full.size : Nat) := by omega
        go_upto_region 6 with fail
        go_cut [39] (fun v wc => v = .bool (!Q.upB full[i]) ∧ wc = wr)
        case first =>
          rcases rangeU (full[i].toNat) with hr | hr | hr | hr | hr
          · have Hu := Lib.hid (show Q.upB full[i] = true by unfold Q.upB Q.digB; simp; omega)
            have g0 : ¬ ((full[i].toNat : Nat) : Int) < 65 := by omega
            have d0 : decide (((full[i].toNat : Nat) : Int) < 65) = false := decide_eq_false (by omega)
            have g1 : ¬ (90 : Int) < (full[i].toNat : Nat) := by omega
            have d1 : decide ((90 : Int) < (full[i].toNat : Nat)) = false := decide_eq_false (by omega)
            clear hr
            go_wp2_with fail
            go_meet
            case rel => exact ⟨by rw [Hu.out]; rfl, rfl⟩
          · have Hu := Lib.hid (show Q.upB full[i] = true by unfold Q.upB Q.digB; simp; omega)
            have g0 : ((full[i].toNat : Nat) : Int) < 65 := by omega
            have d0 : decide (((full[i].toNat : Nat) : Int) < 65) = true := decide_eq_true (by omega)
            have g1 : ¬ ((full[i].toNat : Nat) : Int) < 48 := by omega
            have d1 : decide (((full[i].toNat : Nat) : Int) < 48) = false := decide_eq_false (by omega)
            have g2 : ¬ (57 : Int) < (full[i].toNat : Nat) := by omega
            have d2 : decide ((57 : Int) < (full[i].toNat : Nat)) = false := decide_eq_false (by omega)
            clear hr
            go_wp2_with fail
            go_meet
            case rel => exact ⟨by rw [Hu.out]; rfl, rfl⟩
          · have Hu := Lib.hid (show Q.upB full[i] = false by unfold Q.upB Q.digB; simp; omega)
            have g0 : ((full[i].toNat : Nat) : Int) < 65 := by omega
            have d0 : decide (((full[i].toNat : Nat) : Int) < 65) = true := decide_eq_true (by omega)
            have g1 : ((full[i].toNat : Nat) : Int) < 48 := by omega
            have d1 : decide (((full[i].toNat : Nat) : Int) < 48) = true := decide_eq_true (by omega)
            clear hr
            go_wp2_with fail
            go_meet
            case rel => exact ⟨by rw [Hu.out]; rfl, rfl⟩
          · have Hu := Lib.hid (show Q.upB full[i] = false by unfold Q.upB Q.digB; simp; omega)
            have g0 : ((full[i].toNat : Nat) : Int) < 65 := by omega
            have d0 : decide (((full[i].toNat : Nat) : Int) < 65) = true := decide_eq_true (by omega)
            have g1 : ¬ ((full[i].toNat : Nat) : Int) < 48 := by omega
            have d1 : decide (((full[i].toNat : Nat) : Int) < 48) = false := decide_eq_false (by omega)
            have g2 : (57 : Int) < (full[i].toNat : Nat) := by omega
            have d2 : decide ((57 : Int) < (full[i].toNat : Nat)) = true := decide_eq_true (by omega)
            clear hr
            go_wp2_with fail
            go_meet
            case rel => exact ⟨by rw [Hu.out]; rfl, rfl⟩
          · have Hu := Lib.hid (show Q.upB full[i] = false by unfold Q.upB Q.digB; simp; omega)
            have g0 : ¬ ((full[i].toNat : Nat) : Int) < 65 := by omega
            have d0 : decide (((full[i].toNat : Nat) : Int) < 65) = false := decide_eq_false (by omega)
            have g1 : (90 : Int) < (full[i].toNat : Nat) := by omega
            have d1 : decide ((90 : Int) < (full[i].toNat : Nat)) = true := decide_eq_true (by omega)
            have g2 : ¬ ((full[i].toNat : Nat) : Int) < 48 := by omega
            have d2 : decide (((full[i].toNat : Nat) : Int) < 48) = false := decide_eq_false (by omega)
            have g3 : (57 : Int) < (full[i].toNat : Nat) := by omega
            have d3 : decide ((57 : Int) < (full[i].toNat : Nat)) = true := decide_eq_true (by omega)
            clear hr
            go_wp2_with fail
            go_meet
            case rel => exact ⟨by rw [Hu.out]; rfl, rfl⟩
        case rest =>
          obtain ⟨rfl, hcw⟩ := hcut
          replace hcw := hcw.symm
          subst hcw
          cases hu : Q.upB full[i] with
          | true =>
            have Hn := Lib.hid (step_all hlt Hall0.out hu)
            clear hu
            go_wp2_with fail
            go_roundw
            case rel => exact ⟨i + 1, by omega, by go_num, HKr.out, Hn.out⟩
            case measure => simp [intOf]; omega
          | false =>
            clear hu
            have HN := Lib.hid (awake_any wr E m (HE.out.keep HKr.out))
            go_wp2_with fail
            (with_reducible refine HN.out.mono ?_)
            rintro e w9 ⟨rfl, hk9⟩
            have HK9 := Lib.hid (Kp.trans HKr.out hk9)
            clear hk9
            go_wp2_with fail
            go_ret
            exact ⟨rfl, HK9.out⟩
      · obtain rfl : i = full.size := by omega
        have Hall := Lib.hid (all_of Hall0.out)
        have hii : ¬ ((full.size : Nat) : Int) < (full.size : Nat) := by omega
        clear Hall0 hlt
        have HP := Lib.hid (parseN_any wr E m (HE.out.keep HKr.out) (⟨#[78, 111, 105, 115, 101, 95]⟩ ++ full ++ ⟨#[95, 50, 53, 53, 49, 57, 95, 67, 104, 97, 67, 104, 97, 80, 111, 108, 121, 95, 66, 76, 65, 75, 69, 50, 115]⟩))
        unfold NmPost at HP
        rw [nm_plain Hall.out h60] at HP
        have HFi := Lib.hid (fun (v : World) (hv : Kp w v) => find_all v E m (HE.out.keep hv) full (by unfold maxLen; omega))
        have HFn := Lib.hid (fun (h : (fnd full.data.toList).2.2.2.2 = false) => fnd_false h)
        obtain ⟨X, hX⟩ : ∃ X, fnd full.data.toList = X := ⟨_, rfl⟩
        rw [hX] at HP HFi HFn
        clear hX
        obtain ⟨nm, b0, b1, ls, has⟩ := X
        simp only at HP HFi HFn
        cases has with
        | false =>
          simp only [errN, Bool.false_eq_true, if_false] at HP
          go_wp2_with fail
          (with_reducible refine HP.out.mono ?_)
          rintro e w1 ⟨hk1, t0, t1, tl, rfl, hP1⟩
          unfold tvv
          have hk2 := Kp.new w1 (.cells #[.string nm, .slice t0.ao t0.n t0.c, .slice t1.ao t1.n t1.c, .slice tl.ao tl.n tl.c] 26)
          have HF := Lib.hid (Four.new w1 (.string nm) (.slice t0.ao t0.n t0.c) (.slice t1.ao t1.n t1.c) (.slice tl.ao tl.n tl.c) 26)
          have HP1 := Lib.hid (hP1.kp hk2)
          have HK2 := Lib.hid (Kp.trans HKr.out (Kp.trans hk1 hk2))
          clear hk1 hk2 hP1 HP
          go_upto_region 9 with fail
          generalize w1.alloc (.cells #[.string nm, .slice t0.ao t0.n t0.c, .slice t1.ao t1.n t1.c, .slice tl.ao tl.n tl.c] 26) = w2 at *
          generalize w1.heap.size = bp at *
          have HC := Lib.hid (HFi.out w2 HK2.out)
          clear HFi
          go_wp2_with fail
          (with_reducible refine HC.out.mono ?_)
          rintro e w3 ⟨hk3, u0, u1, ul, rfl, hP3⟩
          unfold tvv
          have hk4 := Kp.new w3 (.cells #[.string nm, .slice u0.ao u0.n u0.c, .slice u1.ao u1.n u1.c, .slice ul.ao ul.n ul.c] 26)
          have HF3 := Lib.hid (Four.new w3 (.string nm) (.slice u0.ao u0.n u0.c) (.slice u1.ao u1.n u1.c) (.slice ul.ao ul.n ul.c) 26)
          have HP3 := Lib.hid (hP3.kp hk4)
          have hk34 := Kp.trans hk3 hk4
          have HG := Lib.hid (HF.out.kp hk34)
          have HPA := Lib.hid (HP1.out.kp hk34)
          have HK4 := Lib.hid (Kp.trans HK2.out hk34)
          clear hk3 hP3 hk4 hk34 HC HF HP1
          go_upto_region 10 with fail
          generalize w3.alloc (.cells #[.string nm, .slice u0.ao u0.n u0.c, .slice u1.ao u1.n u1.c, .slice ul.ao ul.n ul.c] 26) = w4 at *
          generalize w3.heap.size = bq at *
          have hc := (HE.out.keep HK4.out).c13
          have es := eq_same w4 (E 13)
          have HN := Lib.hid (awake_any w4 E m (HE.out.keep HK4.out))
          go_wp2_with fail
          (with_reducible refine HN.out.mono ?_)
          rintro e w9 ⟨rfl, hk9⟩
          have HK9 := Lib.hid (Kp.trans HK4.out hk9)
          clear hk9
          go_wp2_with fail
          go_ret
          exact ⟨rfl, HK9.out⟩
        | true =>
          simp only [errN, if_true] at HP
          go_wp2_with fail
          (with_reducible refine HP.out.mono ?_)
          rintro e w1 ⟨hk1, t0, t1, tl, rfl, hP1⟩
          unfold tvv
          have hk2 := Kp.new w1 (.cells #[.string nm, .slice t0.ao t0.n t0.c, .slice t1.ao t1.n t1.c, .slice tl.ao tl.n tl.c] 26)
          have HF := Lib.hid (Four.new w1 (.string nm) (.slice t0.ao t0.n t0.c) (.slice t1.ao t1.n t1.c) (.slice tl.ao tl.n tl.c) 26)
          have HP1 := Lib.hid (hP1.kp hk2)
          have HK2 := Lib.hid (Kp.trans HKr.out (Kp.trans hk1 hk2))
          clear hk1 hk2 hP1 HP
          go_upto_region 9 with fail
          generalize w1.alloc (.cells #[.string nm, .slice t0.ao t0.n t0.c, .slice t1.ao t1.n t1.c, .slice tl.ao tl.n tl.c] 26) = w2 at *
          generalize w1.heap.size = bp at *
          have HC := Lib.hid (HFi.out w2 HK2.out)
          clear HFi
          go_wp2_with fail
          (with_reducible refine HC.out.mono ?_)
          rintro e w3 ⟨hk3, u0, u1, ul, rfl, hP3⟩
          unfold tvv
          have hk4 := Kp.new w3 (.cells #[.string nm, .slice u0.ao u0.n u0.c, .slice u1.ao u1.n u1.c, .slice ul.ao ul.n ul.c] 26)
          have HF3 := Lib.hid (Four.new w3 (.string nm) (.slice u0.ao u0.n u0.c) (.slice u1.ao u1.n u1.c) (.slice ul.ao ul.n ul.c) 26)
          have HP3 := Lib.hid (hP3.kp hk4)
          have hk34 := Kp.trans hk3 hk4
          have HG := Lib.hid (HF.out.kp hk34)
          have HPA := Lib.hid (HP1.out.kp hk34)
          have HK4 := Lib.hid (Kp.trans HK2.out hk34)
          clear hk3 hP3 hk4 hk34 HC HF HP1
          go_upto_region 10 with fail
          generalize w3.alloc (.cells #[.string nm, .slice u0.ao u0.n u0.c, .slice u1.ao u1.n u1.c, .slice ul.ao ul.n ul.c] 26) = w4 at *
          generalize w3.heap.size = bq at *
          obtain ⟨x0, x1, x2, x3, _, _, _, _⟩ := HG.out
          obtain ⟨y0, y1, y2, y3, _, _, _, _⟩ := HF3.out
          have HS := Lib.hid (same_yes w4 nm t0.ao t1.ao tl.ao u0.ao u1.ao ul.ao t0.n t0.c t1.n t1.c tl.n tl.c u0.n u0.c u1.n u1.c ul.n ul.c b0 b1 ls HPA.out HP3.out)
          go_wp2_with fail
          (with_reducible refine HS.out.mono ?_)
          rintro e w6 ⟨rfl, hk6⟩
          have HK6 := Lib.hid (Kp.trans HK4.out hk6)
          clear hk6 x0 x1 x2 x3 y0 y1 y2 y3 HS
          have HN := Lib.hid (awake_any w6 E m (HE.out.keep HK6.out))
          go_wp2_with fail
          (with_reducible refine HN.out.mono ?_)
          rintro e w9 ⟨rfl, hk9⟩
          have HK9 := Lib.hid (Kp.trans HK6.out hk9)
          clear hk9
          go_wp2_with fail
          go_ret
          exact ⟨rfl, HK9.out⟩
end Go.Proofs.YtbdphdgomcabmaaGreatDoor
