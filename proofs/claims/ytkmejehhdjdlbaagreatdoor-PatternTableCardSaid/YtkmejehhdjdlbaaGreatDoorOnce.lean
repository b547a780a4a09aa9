/- What holds once in a valid pattern: the law's function answers true. Condition: the pattern lies there and is valid. -/
import Derived.Test.YtkmejehhdjdlbaaGreatDoorOncT
namespace Go.Proofs.YtkmejehhdjdlbaaGreatDoor
open Go.RowKit

theorem one_long {ls : List Ln} (h : 1 < ls.length) : oneWay ls = false := by
  unfold oneWay
  have : (ls.length == 1) = false := by simp; omega
  rw [this]; rfl
theorem one_first {ls : List Ln} (h : 0 < ls.length) (h1 : ls[0].1 = 1) : oneWay ls = false := by
  unfold oneWay
  rw [List.getElem?_eq_getElem h, Option.map_some, h1]
  simp
set_option maxRecDepth 100000 in
set_option maxHeartbeats 16000000 in
theorem once_any (w : World) (nm : ByteArray) (a0 a1 al : Option Addr) (n0 c0 n1 c1 nl cl : Nat) (b0 b1 : List Int) (ls : List Ln) (hP : PatI w a0 a1 al n0 n1 nl b0 b1 ls) (hck : checkL b0 b1 ls = 0) :
    Calls Tryz.prog 39 #[patV nm a0 a1 al n0 c0 n1 c1 nl cl] w fun e w' => e = .returned (.bool true) ∧ Kp w w' := by
  have hc0 := code0 hck
  have hon := onc_n hck
  have halt := (Q.once_of hck).alt
  have hk1 := Kp.new w (.cells #[.string nm, .slice a0 n0 c0, .slice a1 n1 c1, .slice al nl cl] 26)
  have hF := Four.new w (.string nm) (.slice a0 n0 c0) (.slice a1 n1 c1) (.slice al nl cl) 26
  have hP1 := hP.kp hk1
  have Hk1 := Lib.hid hk1
  have HP := Lib.hid hP1
  have Hll := Lib.hid hP1.il.1
  have hnl0 : 0 < nl := by rw [← hP1.il.1]; exact List.length_pos_iff.2 hc0.2.2.1
  have hnl : nl ≤ 24 := by rw [← hP1.il.1]; exact hc0.2.2.2.1
  have hcn : ∀ v, Kp (w.alloc (.cells #[.string nm, .slice a0 n0 c0, .slice a1 n1 c1, .slice al nl cl] 26)) v → ∀ f t : Int, Calls Tryz.prog 84 #[patV nm a0 a1 al n0 c0 n1 c1 nl cl, iv f, iv t] v fun e w' => e = .returned (iv ((cntF b0 b1 ls f t : Nat) : Int)) ∧ Kp v w' := fun v hv f t => count_any v nm a0 a1 al n0 c0 n1 c1 nl cl b0 b1 ls (hP1.kp hv) (by rcases Q.okB_cases hc0.1 with q | q | q | q <;> rw [q] <;> decide) (by rcases Q.okB_cases hc0.2.1 with q | q | q | q <;> rw [q] <;> decide) (by have := hc0.2.2.2.1; omega) (fun l hl => by have := (hc0.2.2.2.2 l hl).2.2.1; omega) f t
  have Halt := Lib.hid halt
  have hside : ∀ l ∈ ls, l.1 = 0 ∨ l.1 = 1 := fun l hl => (hc0.2.2.2.2 l hl).1
  have Hside := Lib.hid hside
  clear hk1 hP hck hc0 halt hside hP1
  generalize cntF b0 b1 ls = N at hon hcn
  have HON := Lib.hid hon
  clear hon
  go_enter Tryz.func39, Tryz.ntmps39
  go_upto_region 1 with fail
  obtain ⟨bx, hbx⟩ : ∃ bx, bx = w.heap.size := ⟨_, rfl⟩
  rw [← hbx] at hF ⊢
  generalize w.alloc (.cells #[.string nm, .slice a0 n0 c0, .slice a1 n1 c1, .slice al nl cl] 26) = w1 at *
  clear hbx
  have HC := Lib.hid hcn
  have HF := Lib.hid hF
  clear hcn hF
  go_wp2_with fail
  go_loopw [3] (fun i wr => ∃ k : Nat, k ≤ 2 ∧ i = .int .i64 (k : Nat) ∧ Kp w1 wr) (fun i _ => 2 - (intOf i).toNat)
  case atStart => exact ⟨0, by omega, rfl, Kp.refl _⟩
  case round =>
    obtain ⟨k, hk, rfl, hkr⟩ := hrel
    have HK := Lib.hid hkr
    clear hkr
    obtain ⟨y0, y1, y2, y3, _, _, _, _⟩ := HF.out.kp HK.out
    obtain rfl | rfl | rfl : k = 0 ∨ k = 1 ∨ k = 2 := by omega
    · have g1 : ¬ 1 < N 0 1 := by have := HON.out.k01; omega
      have g2 : ¬ 1 < N 0 2 := by have := HON.out.k02; omega
      go_wp2_with fail
      repeat ((with_reducible refine (HC.out _ HK.out _ _).mono ?_); rintro e v ⟨rfl, hk⟩; replace HK := Lib.hid (Kp.trans HK.out hk); clear hk y0 y1 y2 y3; obtain ⟨y0, y1, y2, y3, _, _, _, _⟩ := HF.out.kp HK.out; go_wp2_with fail)
      go_roundw
      case rel => exact ⟨1, by omega, by first | rfl | go_num, HK.out⟩
      case measure => simp [intOf]
    · have g1 : ¬ 1 < N 1 1 := by have := HON.out.k11; omega
      have g2 : ¬ 1 < N 1 2 := by have := HON.out.k12; omega
      go_wp2_with fail
      repeat ((with_reducible refine (HC.out _ HK.out _ _).mono ?_); rintro e v ⟨rfl, hk⟩; replace HK := Lib.hid (Kp.trans HK.out hk); clear hk y0 y1 y2 y3; obtain ⟨y0, y1, y2, y3, _, _, _, _⟩ := HF.out.kp HK.out; go_wp2_with fail)
      go_roundw
      case rel => exact ⟨2, by omega, by first | rfl | go_num, HK.out⟩
      case measure => simp [intOf]
    · clear hk
      rw [show ((2 : Nat) : Int) = 2 from rfl]
      go_upto_region 6 with fail
      go_cut [37] (fun v wc => v = .bool false ∧ Kp w1 wc)
      case first =>
        have g3 : ¬ 1 < N (-1) 3 := by have := HON.out.s3; omega
        have g4 : ¬ 1 < N (-1) 4 := by have := HON.out.s4; omega
        have g5 : ¬ 1 < N (-1) 5 := by have := HON.out.s5; omega
        have g6 : ¬ 1 < N (-1) 6 := by have := HON.out.s6; omega
        go_wp2_with fail
        repeat ((with_reducible refine (HC.out _ HK.out _ _).mono ?_); rintro e v ⟨rfl, hk⟩; replace HK := Lib.hid (Kp.trans HK.out hk); clear hk y0 y1 y2 y3; obtain ⟨y0, y1, y2, y3, _, _, _, _⟩ := HF.out.kp HK.out; go_wp2_with fail)
        go_meet
        case rel => exact ⟨by first | rfl | (simp; omega), HK.out⟩
      case rest =>
        obtain ⟨rfl, hkc⟩ := hcut
        have HK := Lib.hid hkc
        clear hkc y0 y1 y2 y3
        obtain ⟨y0, y1, y2, y3, _, _, _, _⟩ := HF.out.kp HK.out
        go_upto_region 8 with fail
        go_cut [65] (fun v wc => v = .bool false ∧ Kp w1 wc)
        case first =>
          rcases (show N (-1) 3 = 0 ∨ N (-1) 3 = 1 by have := HON.out.s3; omega) with g3 | g3
          · rcases (show N (-1) 6 = 0 ∨ N (-1) 6 = 1 by have := HON.out.s6; omega) with g6 | g6
            · go_wp2_with fail
              repeat ((with_reducible refine (HC.out _ HK.out _ _).mono ?_); rintro e v ⟨rfl, hk⟩; replace HK := Lib.hid (Kp.trans HK.out hk); clear hk y0 y1 y2 y3; obtain ⟨y0, y1, y2, y3, _, _, _, _⟩ := HF.out.kp HK.out; go_wp2_with fail)
              go_meet
              case rel => exact ⟨by first | rfl | (simp; omega), HK.out⟩
            · have ⟨ga6, gb6⟩ := HON.out.w6 g6
              go_wp2_with fail
              repeat ((with_reducible refine (HC.out _ HK.out _ _).mono ?_); rintro e v ⟨rfl, hk⟩; replace HK := Lib.hid (Kp.trans HK.out hk); clear hk y0 y1 y2 y3; obtain ⟨y0, y1, y2, y3, _, _, _, _⟩ := HF.out.kp HK.out; go_wp2_with fail)
              go_meet
              case rel => exact ⟨by first | rfl | (simp; omega), HK.out⟩
          · have ⟨ga3, gb3⟩ := HON.out.w3 g3
            rcases (show N (-1) 6 = 0 ∨ N (-1) 6 = 1 by have := HON.out.s6; omega) with g6 | g6
            · go_wp2_with fail
              repeat ((with_reducible refine (HC.out _ HK.out _ _).mono ?_); rintro e v ⟨rfl, hk⟩; replace HK := Lib.hid (Kp.trans HK.out hk); clear hk y0 y1 y2 y3; obtain ⟨y0, y1, y2, y3, _, _, _, _⟩ := HF.out.kp HK.out; go_wp2_with fail)
              go_meet
              case rel => exact ⟨by first | rfl | (simp; omega), HK.out⟩
            · have ⟨ga6, gb6⟩ := HON.out.w6 g6
              go_wp2_with fail
              repeat ((with_reducible refine (HC.out _ HK.out _ _).mono ?_); rintro e v ⟨rfl, hk⟩; replace HK := Lib.hid (Kp.trans HK.out hk); clear hk y0 y1 y2 y3; obtain ⟨y0, y1, y2, y3, _, _, _, _⟩ := HF.out.kp HK.out; go_wp2_with fail)
              go_meet
              case rel => exact ⟨by first | rfl | (simp; omega), HK.out⟩
        case rest =>
          obtain ⟨rfl, hkc⟩ := hcut
          have HK := Lib.hid hkc
          clear hkc y0 y1 y2 y3
          obtain ⟨y0, y1, y2, y3, _, _, _, _⟩ := HF.out.kp HK.out
          go_upto_region 10 with fail
          go_cut [93] (fun v wc => v = .bool false ∧ Kp w1 wc)
          case first =>
            rcases (show N (-1) 4 = 0 ∨ N (-1) 4 = 1 by have := HON.out.s4; omega) with g4 | g4
            · rcases (show N (-1) 5 = 0 ∨ N (-1) 5 = 1 by have := HON.out.s5; omega) with g5 | g5
              · go_wp2_with fail
                repeat ((with_reducible refine (HC.out _ HK.out _ _).mono ?_); rintro e v ⟨rfl, hk⟩; replace HK := Lib.hid (Kp.trans HK.out hk); clear hk y0 y1 y2 y3; obtain ⟨y0, y1, y2, y3, _, _, _, _⟩ := HF.out.kp HK.out; go_wp2_with fail)
                go_meet
                case rel => exact ⟨by first | rfl | (simp; omega), HK.out⟩
              · have ⟨ga5, gb5⟩ := HON.out.w5 g5
                go_wp2_with fail
                repeat ((with_reducible refine (HC.out _ HK.out _ _).mono ?_); rintro e v ⟨rfl, hk⟩; replace HK := Lib.hid (Kp.trans HK.out hk); clear hk y0 y1 y2 y3; obtain ⟨y0, y1, y2, y3, _, _, _, _⟩ := HF.out.kp HK.out; go_wp2_with fail)
                go_meet
                case rel => exact ⟨by first | rfl | (simp; omega), HK.out⟩
            · have ⟨ga4, gb4⟩ := HON.out.w4 g4
              rcases (show N (-1) 5 = 0 ∨ N (-1) 5 = 1 by have := HON.out.s5; omega) with g5 | g5
              · go_wp2_with fail
                repeat ((with_reducible refine (HC.out _ HK.out _ _).mono ?_); rintro e v ⟨rfl, hk⟩; replace HK := Lib.hid (Kp.trans HK.out hk); clear hk y0 y1 y2 y3; obtain ⟨y0, y1, y2, y3, _, _, _, _⟩ := HF.out.kp HK.out; go_wp2_with fail)
                go_meet
                case rel => exact ⟨by first | rfl | (simp; omega), HK.out⟩
              · have ⟨ga5, gb5⟩ := HON.out.w5 g5
                go_wp2_with fail
                repeat ((with_reducible refine (HC.out _ HK.out _ _).mono ?_); rintro e v ⟨rfl, hk⟩; replace HK := Lib.hid (Kp.trans HK.out hk); clear hk y0 y1 y2 y3; obtain ⟨y0, y1, y2, y3, _, _, _, _⟩ := HF.out.kp HK.out; go_wp2_with fail)
                go_meet
                case rel => exact ⟨by first | rfl | (simp; omega), HK.out⟩
          case rest =>
            obtain ⟨rfl, hkc⟩ := hcut
            have HK := Lib.hid hkc
            clear hkc y0 y1 y2 y3
            obtain ⟨y0, y1, y2, y3, _, _, _, _⟩ := HF.out.kp HK.out
            go_wp2_with fail
            go_loopw [4] (fun i wr => ∃ k q : Nat, k + 1 ≤ nl ∧ i = .int .i64 ((k : Int) + 1) ∧ wr = wc.drewN q) (fun i _ => nl - (intOf i).toNat)
            case atStart => exact ⟨0, 0, by omega, rfl, rfl⟩
            case round =>
              obtain ⟨k, q, hk, rfl, rfl⟩ := hrel
              by_cases hlt : k + 1 < nl
              · have hkl : k + 1 < ls.length := by rw [Hll.out]; exact hlt
                obtain ⟨b, off, tp, tn, tc, rfl, hd1, hd2, _, _⟩ := (HP.out.kp HK.out).il.2.2 (k + 1) hkl
                obtain ⟨b2, off2, tp2, tn2, tc2, e2, hd3, hd4, _, _⟩ := (HP.out.kp HK.out).il.2.2 k (by omega)
                cases e2
                have hne := Halt.out k hkl
                clear hd2 hd4
                generalize (ls[k + 1]'hkl).1 = x at *
                generalize (ls[k]'(by omega)).1 = y at *
                have hlt2 : k < nl := by omega
                go_wp2_with fail
                go_quiet (fail)
                go_wp2_with fail
                go_roundw
                case rel => exact ⟨k + 1, _, by omega, by go_num, by first | rfl | exact World.drewN_drewN _ _ _⟩
                case measure => simp [intOf]; omega
              · have hke : nl = k + 1 := by omega
                have HKq := Lib.hid (Kp.trans HK.out (Kp.of_drewN wc q))
                clear HK y0 y1 y2 y3
                generalize wc.drewN q = wq at *
                have HK := HKq
                clear HKq
                have Hke := Lib.hid hke
                clear hke hk
                obtain ⟨y0, y1, y2, y3, _, _, _, _⟩ := HF.out.kp HK.out
                go_upto_region 17 with fail
                go_cut [5] (fun v wc => ∃ b : Bool, v = .bool b ∧ (b = true → oneWay ls = false) ∧ wq = wc)
                case first =>
                  by_cases h1n : 1 < nl
                  · have how : oneWay ls = false := one_long (by rw [Hll.out]; omega)
                    go_wp2_with fail
                    go_meet
                    case rel => exact ⟨true, rfl, fun _ => how, rfl⟩
                  · have hl0 : 0 < ls.length := by rw [Hll.out]; exact hnl0
                    obtain ⟨b, off, tp, tn, tc, rfl, hd1, _, _, _⟩ := (HP.out.kp HK.out).il.2.2 0 hl0
                    have hsd := Hside.out _ (List.getElem_mem hl0)
                    have how := one_first hl0
                    simp only [Nat.zero_mul, Nat.add_zero] at hd1
                    generalize (ls[0]'hl0).1 = x at hd1 hsd how
                    rcases hsd with rfl | rfl
                    · clear how
                      go_wp2_with fail
                      go_meet
                      case rel => exact ⟨false, by first | rfl | (simp; omega), (fun h => by cases h), rfl⟩
                    · have how2 := how rfl
                      clear how
                      go_wp2_with fail
                      go_meet
                      case rel => exact ⟨true, rfl, fun _ => how2, rfl⟩
                case rest =>
                  obtain ⟨b, rfl, hb, rfl⟩ := hcut
                  go_step
                  exact once_tail w w1 nm a0 a1 al n0 c0 n1 c1 nl cl N (oneWay ls) bx HC.out HF.out HON.out Hk1.out wq HK.out b hb _ _ _ _ _ _ _ _ _ _ _ _ _ _ _ _ _ _ _ _ _ _ _ _ _ _ _ _ _ _ _ _ _ _ _ _ _ _ _ _ _ _ _ _ _ _ _ _ _ _ _ _ _ _ _ _ _ _ _ _ _ _ _ _ _ _ _ _ _ _ _ _ _ _ _ _ _ _ _ _ _ _ _ _ _ _ _ _ _ _ _ _ _ _ _ _ _ _ _ _ _ _ _ _ _ _ _ _ _ _ _ _ _ _ _ _ _ _ _ _ _ _ _ _ _ _ _ _ _ _ _ _ _ _ _ _ _ _ _ _ _ _ _ _ _ _ _ _ _ _ _ _ _ _ _ _ _ _ _ _ _ _ _ _ _ _
end Go.Proofs.YtkmejehhdjdlbaaGreatDoor
