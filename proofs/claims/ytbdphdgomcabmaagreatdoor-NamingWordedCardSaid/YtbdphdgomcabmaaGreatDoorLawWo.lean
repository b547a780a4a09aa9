/- NamingWorded: the law's function answers true. Conditions: the variables lie there (Env); the words lie there. -/
import Derived.Test.YtbdphdgomcabmaaGreatDoorWoT
namespace Go.Proofs.YtbdphdgomcabmaaGreatDoor
open Go.RowKit

set_option maxRecDepth 100000 in
set_option maxHeartbeats 16000000 in
theorem nworded_true (w : World) (E : Nat → Addr) (m : Int) (hE : Env w E m) (bse : ByteArray) (ao : Option Addr) (n cw : Nat) (ss : List ByteArray) (hW : Strs w ao n ss) :
    Calls Tryz.prog 6 #[.string bse, .slice ao n cw] w fun e w' => e = .returned (.bool true) ∧ Kp w w' := by
  have HE := Lib.hid hE
  have HW := Lib.hid hW
  have Hln := Lib.hid hW.1
  clear hE hW
  by_cases h1 : 20 < bse.size ∨ 20 < n ∨ n = 0
  · have HN := Lib.hid (awake_any w E m HE.out)
    rcases h1 with h1 | h1 | h1
    · have g1 : (20 : Int) < (bse.size : Nat) := by omega
      clear h1
      go_enter Tryz.func6, Tryz.ntmps6
      go_wp2_with fail
      (with_reducible refine HN.out.mono ?_)
      rintro e w6 ⟨rfl, hk6⟩
      have HK6 := Lib.hid hk6
      clear hk6
      go_wp2_with fail
      go_ret
      exact ⟨rfl, HK6.out⟩
    · have g2 : (20 : Int) < (n : Nat) := by omega
      by_cases h3 : 20 < bse.size
      · have g1 : (20 : Int) < (bse.size : Nat) := by omega
        go_enter Tryz.func6, Tryz.ntmps6
        go_wp2_with fail
        (with_reducible refine HN.out.mono ?_)
        rintro e w6 ⟨rfl, hk6⟩
        have HK6 := Lib.hid hk6
        clear hk6
        go_wp2_with fail
        go_ret
        exact ⟨rfl, HK6.out⟩
      · have g1 : ¬ (20 : Int) < (bse.size : Nat) := by omega
        go_enter Tryz.func6, Tryz.ntmps6
        go_wp2_with fail
        (with_reducible refine HN.out.mono ?_)
        rintro e w6 ⟨rfl, hk6⟩
        have HK6 := Lib.hid hk6
        clear hk6
        go_wp2_with fail
        go_ret
        exact ⟨rfl, HK6.out⟩
    · subst h1
      by_cases h3 : 20 < bse.size
      · have g1 : (20 : Int) < (bse.size : Nat) := by omega
        go_enter Tryz.func6, Tryz.ntmps6
        go_wp2_with fail
        (with_reducible refine HN.out.mono ?_)
        rintro e w6 ⟨rfl, hk6⟩
        have HK6 := Lib.hid hk6
        clear hk6
        go_wp2_with fail
        go_ret
        exact ⟨rfl, HK6.out⟩
      · have g1 : ¬ (20 : Int) < (bse.size : Nat) := by omega
        go_enter Tryz.func6, Tryz.ntmps6
        go_wp2_with fail
        (with_reducible refine HN.out.mono ?_)
        rintro e w6 ⟨rfl, hk6⟩
        have HK6 := Lib.hid hk6
        clear hk6
        go_wp2_with fail
        go_ret
        exact ⟨rfl, HK6.out⟩
  · have g1 : ¬ (20 : Int) < (bse.size : Nat) := by omega
    have g2 : ¬ (20 : Int) < (n : Nat) := by omega
    have g3 : ¬ ((n : Nat) : Int) = 0 := by omega
    have g3b : (((n : Nat) : Int) == 0) = false := by simpa using g3
    have hb20 : bse.size ≤ 20 := by omega
    have hn20 : n ≤ 20 := by omega
    have hn0 : 0 < n := by omega
    clear h1
    go_enter Tryz.func6, Tryz.ntmps6
    go_upto_block 0 with fail
    clear g1 g2 g3 g3b
    go_cut [5] (fun fv wc => ∃ fl : ByteArray, fv = .string fl ∧ Kp w wc ∧ fl.size ≤ 461 ∧ fl.data.toList = bse.data.toList ++ Q.plusAll 0 (wl ss) ∧ ∀ x ∈ wl ss, Q.fineW x = true ∧ x.length ≤ 20)
    case rest =>
      obtain ⟨fl, rfl, hkc, hflz, hdt, hfi⟩ := hcut
      go_step
      exact worded_tail w E m HE.out bse fl ao n cw ss HW.out wc hkc hb20 hn20 hn0 hflz hdt hfi _ _ _ _ _ _ _ _ _ _ _ _ _ _ _ _ _ _ _ _ _ _ _ _ _ _ _ _ _ _ _ _ _ _ _ _ _ _ _ _ _ _ _ _ _ _ _ _ _ _ _ _ _ _ _ _ _ _ _ _ _ _ _ _ _ _ _ _ _ _ _ _ _ _ _ _ _ _ _ _ _ _ _ _ _ _ _ _ _ _ _ _ _ _ _ _ _ _ _ _ _ _ _ _ _ _ _ _ _ _ _ _ _ _ _ _ _ _ _ _ _ _ _ _ _ _ _ _ _ _ _ _ _ _ _ _ _ _ _ _ _ _ _ _ _ _ _ _ _ _ _ _ _ _ _ _ _ _ _ _ _ _ _ _ _ _ _ _ _ _ _ _ _ _ _ _ _ _ _ _ _ _ _ _ _ _ _
    case first =>
      go_wp2_with fail
      go_loopw [5, 6] (fun fv iv_ wr => ∃ (i : Nat) (fl : ByteArray), fv = .string fl ∧ iv_ = .int .i64 (i : Nat) ∧ Kp w wr ∧ WoI bse ss n i fl) (fun _ i _ => n - (intOf i).toNat)
      case atStart => exact ⟨0, bse, rfl, rfl, Kp.refl _, ⟨Nat.zero_le _, by simp [Q.plusAll], by omega, fun j h h2 => by omega⟩⟩
      case round =>
        obtain ⟨i, fl, rfl, rfl, hkr, hI⟩ := hrel
        rename World => wr
        have HKr := Lib.hid hkr
        have HI := Lib.hid hI
        clear hkr hI
        by_cases hlt : i < n
        · have hii : ((i : Nat) : Int) < (n : Nat) := by omega
          obtain ⟨b0, o0, rfl, hcw0⟩ := (HKr.out.strs HW.out).at i hlt
          have hcx := hcw0 i hlt
          clear hcw0
          obtain ⟨x, hx⟩ : ∃ x, x = ss[i]'(by rw [Hln.out]; exact hlt) := ⟨_, rfl⟩
          rw [← hx] at hcx
          have Hx := Lib.hid hx
          clear hx
          go_upto_region 8 with fail
          clear hcx
          go_cut [60] (fun v wc => v = .bool (decide (20 < x.size) || Q.badW x.data.toList) ∧ wc = wr)
          case first =>
            by_cases hx20 : 20 < x.size
            · have hxI : (20 : Int) < (x.size : Nat) := by omega
              have Hd := Lib.hid (show decide (20 < x.size) = true from decide_eq_true hx20)
              clear hx20
              go_wp2_with fail
              go_meet
              case rel => exact ⟨by rw [Hd.out]; rfl, rfl⟩
            · have hxI : ¬ (20 : Int) < (x.size : Nat) := by omega
              have Hd := Lib.hid (show decide (20 < x.size) = false from decide_eq_false hx20)
              rcases Nat.eq_zero_or_pos x.size with h0 | h0
              · have h0I : ((x.size : Nat) : Int) = 0 := by omega
                have Hbw := Lib.hid (show Q.badW x.data.toList = true by rw [show x.data.toList = [] from List.length_eq_zero_iff.1 (by rw [← Lib.size_eq]; exact h0)]; rfl)
                clear h0 hx20 hxI
                go_wp2_with fail
                go_meet
                case rel => exact ⟨by rw [Hd.out, Hbw.out]; rfl, rfl⟩
              · have h0I : ¬ ((x.size : Nat) : Int) = 0 := by omega
                have h0b : (((x.size : Nat) : Int) == 0) = false := by simpa using h0I
                have h0J : (0 : Int) < (x.size : Nat) := by omega
                have Hbw := Lib.hid (badW_byte h0)
                by_cases h48 : 48 ≤ x[0].toNat
                · have h48I : (48 : Int) ≤ (x[0].toNat : Nat) := by omega
                  have h57 : decide (((x[0].toNat : Nat) : Int) ≤ 57) = decide (x[0].toNat ≤ 57) := by rw [Bool.eq_iff_iff]; simp; omega
                  have Hg := Lib.hid (show Q.digB x[0] = decide (x[0].toNat ≤ 57) by unfold Q.digB; simp [h48])
                  go_wp2_with fail
                  go_meet
                  case rel => exact ⟨by rw [Hd.out, Hbw.out, Hg.out]; rfl, rfl⟩
                · have h48I : ¬ (48 : Int) ≤ (x[0].toNat : Nat) := by omega
                  have Hg := Lib.hid (show Q.digB x[0] = false by unfold Q.digB; simp [h48])
                  go_wp2_with fail
                  go_meet
                  case rel => exact ⟨by rw [Hd.out, Hbw.out, Hg.out]; rfl, rfl⟩
          case rest =>
            obtain ⟨rfl, hcw⟩ := hcut
            replace hcw := hcw.symm
            subst hcw
            cases hq : (decide (20 < x.size) || Q.badW x.data.toList) with
            | true =>
              clear hq
              have HN := Lib.hid (awake_any wr E m (HE.out.keep HKr.out))
              go_wp2_with fail
              (with_reducible refine HN.out.mono ?_)
              rintro e w9 ⟨rfl, hk9⟩
              have HK9 := Lib.hid (Kp.trans HKr.out hk9)
              clear hk9
              go_wp2_with fail
              go_ret
              exact ⟨rfl, HK9.out⟩
            | false =>
              have hx20 : x.size ≤ 20 := by simp only [Bool.or_eq_false_iff, decide_eq_false_iff_not] at hq; omega
              have Hbw := Lib.hid (show Q.badW x.data.toList = false by simp only [Bool.or_eq_false_iff] at hq; exact hq.2)
              clear hq
              go_wp2_with fail
              go_loopw [8] (fun kv wv => ∃ k : Nat, k ≤ x.size ∧ kv = .int .i64 (k : Nat) ∧ Kp w wv ∧ ∀ j (h : j < x.size), j < k → Q.loB x[j] = true) (fun k _ => x.size - (intOf k).toNat)
              case atStart => exact ⟨0, Nat.zero_le _, rfl, HKr.out, fun j h h2 => by omega⟩
              case round =>
                obtain ⟨k, hk, rfl, hkv, hall⟩ := hrel
                rename World => wv
                have Hall := Lib.hid hall
                clear hall
                have HKv := Lib.hid hkv
                by_cases hkx : k < x.size
                · have hkI : ((k : Nat) : Int) < (x.size : Nat) := by omega
                  go_upto_region 13 with fail
                  go_cut [89] (fun v wc => v = .bool (!Q.loB x[k]) ∧ wc = wv)
                  case first =>
                    rcases rangeL (x[k].toNat) with hr | hr | hr | hr | hr
                    · have Hu := Lib.hid (show Q.loB x[k] = true by unfold Q.loB Q.digB; simp; omega)
                      have g0 : ¬ ((x[k].toNat : Nat) : Int) < 97 := by omega
                      have d0 : decide (((x[k].toNat : Nat) : Int) < 97) = false := decide_eq_false (by omega)
                      have g1 : ¬ (122 : Int) < (x[k].toNat : Nat) := by omega
                      have d1 : decide ((122 : Int) < (x[k].toNat : Nat)) = false := decide_eq_false (by omega)
                      clear hr
                      go_wp2_with fail
                      go_meet
                      case rel => exact ⟨by rw [Hu.out]; rfl, rfl⟩
                    · have Hu := Lib.hid (show Q.loB x[k] = true by unfold Q.loB Q.digB; simp; omega)
                      have g0 : ((x[k].toNat : Nat) : Int) < 97 := by omega
                      have d0 : decide (((x[k].toNat : Nat) : Int) < 97) = true := decide_eq_true (by omega)
                      have g1 : ¬ ((x[k].toNat : Nat) : Int) < 48 := by omega
                      have d1 : decide (((x[k].toNat : Nat) : Int) < 48) = false := decide_eq_false (by omega)
                      have g2 : ¬ (57 : Int) < (x[k].toNat : Nat) := by omega
                      have d2 : decide ((57 : Int) < (x[k].toNat : Nat)) = false := decide_eq_false (by omega)
                      clear hr
                      go_wp2_with fail
                      go_meet
                      case rel => exact ⟨by rw [Hu.out]; rfl, rfl⟩
                    · have Hu := Lib.hid (show Q.loB x[k] = false by unfold Q.loB Q.digB; simp; omega)
                      have g0 : ((x[k].toNat : Nat) : Int) < 97 := by omega
                      have d0 : decide (((x[k].toNat : Nat) : Int) < 97) = true := decide_eq_true (by omega)
                      have g1 : ((x[k].toNat : Nat) : Int) < 48 := by omega
                      have d1 : decide (((x[k].toNat : Nat) : Int) < 48) = true := decide_eq_true (by omega)
                      clear hr
                      go_wp2_with fail
                      go_meet
                      case rel => exact ⟨by rw [Hu.out]; rfl, rfl⟩
                    · have Hu := Lib.hid (show Q.loB x[k] = false by unfold Q.loB Q.digB; simp; omega)
                      have g0 : ((x[k].toNat : Nat) : Int) < 97 := by omega
                      have d0 : decide (((x[k].toNat : Nat) : Int) < 97) = true := decide_eq_true (by omega)
                      have g1 : ¬ ((x[k].toNat : Nat) : Int) < 48 := by omega
                      have d1 : decide (((x[k].toNat : Nat) : Int) < 48) = false := decide_eq_false (by omega)
                      have g2 : (57 : Int) < (x[k].toNat : Nat) := by omega
                      have d2 : decide ((57 : Int) < (x[k].toNat : Nat)) = true := decide_eq_true (by omega)
                      clear hr
                      go_wp2_with fail
                      go_meet
                      case rel => exact ⟨by rw [Hu.out]; rfl, rfl⟩
                    · have Hu := Lib.hid (show Q.loB x[k] = false by unfold Q.loB Q.digB; simp; omega)
                      have g0 : ¬ ((x[k].toNat : Nat) : Int) < 97 := by omega
                      have d0 : decide (((x[k].toNat : Nat) : Int) < 97) = false := decide_eq_false (by omega)
                      have g1 : (122 : Int) < (x[k].toNat : Nat) := by omega
                      have d1 : decide ((122 : Int) < (x[k].toNat : Nat)) = true := decide_eq_true (by omega)
                      have g2 : ¬ ((x[k].toNat : Nat) : Int) < 48 := by omega
                      have d2 : decide (((x[k].toNat : Nat) : Int) < 48) = false := decide_eq_false (by omega)
                      have g3 : (57 : Int) < (x[k].toNat : Nat) := by omega
                      have d3 : decide ((57 : Int) < (x[k].toNat : Nat)) = true := decide_eq_true (by omega)
                      clear hr
                      go_wp2_with fail
                      go_meet
                      case rel => exact ⟨by rw [Hu.out]; rfl, rfl⟩
                  case rest =>
                    obtain ⟨rfl, hcw⟩ := hcut
                    replace hcw := hcw.symm
                    subst hcw
                    cases hu : Q.loB x[k] with
                    | true =>
                      have Hn := Lib.hid (step_allL hkx Hall.out hu)
                      clear hu
                      go_wp2_with fail
                      go_roundw
                      case rel => exact ⟨k + 1, by omega, by go_num, HKv.out, Hn.out⟩
                      case measure => simp [intOf]; omega
                    | false =>
                      clear hu
                      have HN := Lib.hid (awake_any wv E m (HE.out.keep HKv.out))
                      go_wp2_with fail
                      (with_reducible refine HN.out.mono ?_)
                      rintro e w9 ⟨rfl, hk9⟩
                      have HK9 := Lib.hid (Kp.trans HKv.out hk9)
                      clear hk9
                      go_wp2_with fail
                      go_ret
                      exact ⟨rfl, HK9.out⟩
                · obtain rfl : k = x.size := by omega
                  have hkI : ¬ ((x.size : Nat) : Int) < (x.size : Nat) := by omega
                  have Hfx := Lib.hid (show Q.fineW x.data.toList = true by unfold Q.fineW; rw [Hbw.out, allL_of Hall.out]; rfl)
                  have Hst := Lib.hid (wo_step hlt HI.out (by rw [Hln.out]; exact hlt) Hx.out Hfx.out hx20)
                  clear Hall hkx
                  by_cases hi0 : 0 < i
                  · have hi0I : (0 : Int) < (i : Nat) := by omega
                    have hz1 : fl.size + (⟨#[43]⟩ : ByteArray).size ≤ 441 := by have := HI.out.sz; have : (⟨#[43]⟩ : ByteArray).size = 1 := rfl; omega
                    have hz2 : (fl ++ ⟨#[43]⟩ : ByteArray).size + x.size ≤ 461 := by rw [ByteArray.size_append]; omega
                    go_wp2_with fail
                    go_roundw
                    case rel => exact ⟨i + 1, _, rfl, by go_num, HKv.out, Hst.out _ (by rw [if_pos hi0])⟩
                    case measure => simp [intOf]; omega
                  · have hi0I : ¬ (0 : Int) < (i : Nat) := by omega
                    have hz2 : fl.size + x.size ≤ 461 := by have := HI.out.sz; omega
                    go_wp2_with fail
                    go_roundw
                    case rel => exact ⟨i + 1, _, rfl, by go_num, HKv.out, Hst.out _ (by rw [if_neg hi0])⟩
                    case measure => simp [intOf]; omega
        · have hin : i = n := by have := HI.out.le; omega
          have hii : ¬ ((i : Nat) : Int) < (n : Nat) := by omega
          have HI2 := Lib.hid (wo_end HI.out (Hln.out.trans hin.symm))
          have hflz : fl.size ≤ 461 := by have := HI.out.sz; omega
          clear hlt
          go_wp2_with fail
          go_meet
          case rel => exact ⟨fl, rfl, HKr.out, hflz, HI2.out⟩
end Go.Proofs.YtbdphdgomcabmaaGreatDoor
