/- What 'Unroll' answers of the initiator's side. Conditions: the pattern lies there (Is, Lns); the errors are laid (Errs). -/
import Derived.Test.YtbcjeemjpcidhaaDoorPa4
import Derived.Test.YtbcjeemjpcidhaaDoorPa1
import Derived.Test.YtbcjeemjpcidhaaDoorPa2
import Derived.Test.YtbcjeemjpcidhaaDoorTakes
import Derived.Test.YtbcjeemjpcidhaaDoorShaped
import Derived.Test.YtbcjeemjpcidhaaDoorPa3
namespace Go.Proofs.YtbcjeemjpcidhaaDoor
open Go.RowKit

set_option maxRecDepth 100000 in
set_option maxHeartbeats 8000000 in
theorem unroll_true (w : World) (E : Nat → Addr) (hE : Errs w E) (nm : ByteArray) (a0 a1 al : Option Addr) (n0 c0 n1 c1 nl cl : Nat) (b0 b1 : List Int) (ls : List Ln) (h0 : Is w a0 n0 b0) (h1 : Is w a1 n1 b1) (hl : Lns w al nl ls) :
    Calls Tryd.prog 5 #[.agg #[.string nm, .slice a0 n0 c0, .slice a1 n1 c1, .slice al nl cl], .bool true] w (UnrollPost w E true b0 b1 ls) := by
  have hnl := hl.2.1
  have Hll := Lib.hid hl.1
  have hkb := Kp.new w (.cells #[.string nm, .slice a0 n0 c0, .slice a1 n1 c1, .slice al nl cl] 29)
  have hnew : ∀ j v, [Value.string nm, .slice a0 n0 c0, .slice a1 n1 c1, .slice al nl cl][j]? = some v → (w.alloc (.cells #[.string nm, .slice a0 n0 c0, .slice a1 n1 c1, .slice al nl cl] 29)).cell? ⟨w.heap.size, j, none⟩ = some v := by
    intro j v hv
    rw [World.cell?_alloc_at _ _ _ _ rfl]
    simpa using hv
  have Hnew := Lib.hid hnew; clear hnew
  have i0 : ∀ w, (Instr.index 26 (.agg #[.slice a0 n0 c0, .slice a1 n1 c1]) (.int .i64 0)).run Tryd.prog w = .ok (.slice a0 n0 c0) w := fun _ => by kernel_rfl
  have i1 : ∀ w, (Instr.index 26 (.agg #[.slice a0 n0 c0, .slice a1 n1 c1]) (.int .i64 1)).run Tryd.prog w = .ok (.slice a1 n1 c1) w := fun _ => by kernel_rfl
  go_enter Tryd.func5, Tryd.ntmps5
  go_wp2_with fail
  (with_reducible refine (check_any _ E (Kp.errs hkb hE) nm a0 a1 al n0 c0 n1 c1 nl cl b0 b1 ls (Kp.is hkb h0) (Kp.is hkb h1) (Kp.lns hkb hl)).mono ?_)
  rintro e w1 ⟨rfl, hk1⟩
  have hkw := Kp.trans hkb hk1
  by_cases hc : checkL b0 b1 ls = 0
  · have hsh := checkL_ok hc
    rw [show errV E (checkL b0 b1 ls) = .nilIface by rw [hc]; rfl]
    obtain ⟨hb0, hb1, hl0, hmem⟩ := shapedL_mem hsh
    obtain ⟨lb0, lb1, lls, lts⟩ := shapedL_len hsh
    have hn0 : n0 ≤ 2 := by rw [← h0.1]; exact lb0
    have hn1 : n1 ≤ 2 := by rw [← h1.1]; exact lb1
    have hnl24 : nl ≤ 24 := by rw [← hl.1]; exact lls
    have Hlts := Lib.hid lts
    have Hb0 := Lib.hid (okB_mem hb0)
    have Hb1 := Lib.hid (okB_mem hb1)
    have Hmem := Lib.hid hmem
    have Hl0 := Lib.hid h0.1
    have Hl1 := Lib.hid h1.1
    have Hc := Lib.hid hc
    have y0 := Kp.cell hk1 (Hnew.out 0 _ rfl)
    have y1 := Kp.cell hk1 (Hnew.out 1 _ rfl)
    have y2 := Kp.cell hk1 (Hnew.out 2 _ rfl)
    have y3 := Kp.cell hk1 (Hnew.out 3 _ rfl)
    clear hc hsh hb0 hb1 hl0 hmem lb0 lb1 lls lts hkb hk1 hE hnl
    go_wp2_with fail
    (with_reducible refine (has_any w1 nm a0 a1 al n0 c0 n1 c1 nl cl ls (-1) 7 (Kp.lns hkw hl)).mono ?_)
    rintro e w2 ⟨rfl, hk2⟩
    have y0 := Kp.cell hk2 y0
    have y1 := Kp.cell hk2 y1
    have y2 := Kp.cell hk2 y2
    have y3 := Kp.cell hk2 y3
    have hkw := Kp.trans hkw hk2
    obtain ⟨psk, hpsk⟩ : ∃ x, x = hasL ls (-1) 7 := ⟨_, rfl⟩
    rw [← hpsk]
    have Hpsk := Lib.hid hpsk; clear hpsk hk2
    go_upto_region 9 with fail
    go_cut [41] (fun v wc => v = .bool (hasL ls 0 2 || inL b0 2) ∧ Kp w2 wc)
    case first =>
      go_wp2_with fail
      (with_reducible refine (has_any w2 nm a0 a1 al n0 c0 n1 c1 nl cl ls 0 2 (Kp.lns hkw hl)).mono ?_)
      rintro e w3 ⟨rfl, hk3⟩
      have z := Kp.cell hk3 y1
      cases hq : hasL ls 0 2 with
      | true =>
        have Hq := Lib.hid hq; clear hq
        go_wp2_with fail
        go_meet
        case rel => exact ⟨by rw [Hq.out]; rfl, hk3⟩
      | false =>
        have Hq := Lib.hid hq; clear hq
        go_wp2_with fail
        (with_reducible refine (contains_any w3 a0 n0 c0 b0 2 (Kp.is (Kp.trans hkw hk3) h0)).mono ?_)
        rintro e w4 ⟨rfl, rfl⟩
        go_wp2_with fail
        go_meet
        case rel => exact ⟨by rw [Hq.out]; rfl, hk3⟩
    case rest =>
      obtain ⟨rfl, hk3⟩ := hcut
      obtain ⟨w3, rfl⟩ : ∃ x, x = wc := ⟨_, rfl⟩
      have y0 := Kp.cell hk3 y0
      have y1 := Kp.cell hk3 y1
      have y2 := Kp.cell hk3 y2
      have y3 := Kp.cell hk3 y3
      have hkw := Kp.trans hkw hk3
      clear hk3
      have hB3 : w.heap.size < w3.heap.size := by have := World.block_lt_of_cell? w3 _ y0; simpa using this
      obtain ⟨pb, hpb⟩ : ∃ x, x = w.heap.size := ⟨_, rfl⟩
      have hBw : w.heap.size ≤ w3.heap.size := hkw.size
      rw [← hpb] at y0 y1 y2 y3 hB3 ⊢
      clear hpb Hnew
      have hA0 : MvA w3 w3 w3.heap.size none 0 [] none 0 := MvA.refl (MvO.nil _ _)
      have Hh := Lib.hid (show headM true b0 b1 ls = (if hasL ls 0 2 || inL b0 2 then [⟨1, 2, 0⟩] else []) ++ ((if inL b0 1 then [⟨1, 1, 0⟩] else []) ++ [⟨2, 0, 0⟩]) from rfl)
      generalize (hasL ls 0 2 || inL b0 2) = p1 at *
      go_upto_if 41 with fail
      go_cut [9] (fun v wc => ∃ n cap ao, v = .slice ao n cap ∧ n ≤ 1 ∧ MvA w3 wc w3.heap.size none n (if p1 then [⟨1, 2, 0⟩] else []) ao cap)
      case first =>
        cases p1 with
        | false =>
          go_wp2_with fail
          go_meet
          case rel => exact ⟨0, 0, none, rfl, by omega, hA0⟩
        | true =>
          go_wp2_with (at_builtin; refine wpList_mv1 rfl (.tmp 42) (.tmp 44) rfl rfl hA0.own ⟨1, 2, 0⟩ rfl (by simp) (by omega) (Nat.le_refl _) ?_; intro ao2 cap2 w4 ha)
          go_meet
          case rel => exact ⟨1, cap2, ao2, rfl, by omega, hA0.trans ha⟩
      case rest =>
        clear hA0
        obtain ⟨n, cap, ao, rfl, hn, hA⟩ := hcut
        obtain ⟨w4, rfl⟩ : ∃ x, x = wc := ⟨_, rfl⟩
        have z := Kp.cell hA.keeps y1
        have hcont := contains_any w4 a0 n0 c0 b0 1 (Kp.is (Kp.trans hkw hA.keeps) h0)
        have Hcont := Lib.hid hcont; clear hcont
        go_upto_region 11 with fail
        go_cut [50] (fun v wc => v = .bool (inL b0 1) ∧ w4 = wc)
        case first =>
          go_wp2_with fail
          (with_reducible refine Hcont.out.mono ?_)
          rintro e w5 ⟨rfl, rfl⟩
          go_wp2_with fail
          go_meet
          case rel => exact ⟨rfl, rfl⟩
        case rest =>
          obtain ⟨rfl, rfl⟩ := hcut
          clear Hcont z
          generalize inL b0 1 = p2 at *
          go_upto_if 50 with fail
          go_cut [9] (fun v wc => ∃ n cap ao, v = .slice ao n cap ∧ n ≤ 2 ∧ MvA w3 wc w3.heap.size none n ((if p1 then [⟨1, 2, 0⟩] else []) ++ (if p2 then [⟨1, 1, 0⟩] else [])) ao cap)
          case first =>
            cases p2 with
            | false =>
              go_wp2_with fail
              go_meet
              case rel => exact ⟨n, cap, ao, rfl, by omega, by rw [show (if false = true then [(⟨1, 1, 0⟩ : Mv)] else []) = [] from rfl, List.append_nil]; exact hA⟩
            | true =>
              go_wp2_with (at_builtin; refine wpList_mv1 rfl (.tmp 51) (.tmp 53) rfl rfl hA.own ⟨1, 1, 0⟩ rfl (by simp) (by omega) hA.keeps.size ?_; intro ao2 cap2 w5 ha)
              go_meet
              case rel => exact ⟨n + 1, cap2, ao2, rfl, by omega, hA.trans ha⟩
          case rest =>
            clear hA hn
            obtain ⟨n, cap, ao, rfl, hn, hA⟩ := hcut
            obtain ⟨w5, rfl⟩ : ∃ x, x = wc := ⟨_, rfl⟩
            have y1a := fun o => Kp.cell (Kp.new w5 o) (Kp.cell hA.keeps y1)
            have y2a := fun o => Kp.cell (Kp.new w5 o) (Kp.cell hA.keeps y2)
            go_wp2_with (at_builtin; refine wpList_mv1 rfl (.tmp 55) (.tmp 57) rfl rfl hA.own ⟨2, 0, 0⟩ rfl (by simp) (by omega) hA.keeps.size ?_; intro ao2 cap2 w6 ha; have hA2 := hA.trans ha; have y1 := Kp.cell hA2.keeps y1; have y2 := Kp.cell hA2.keeps y2)
            rw [List.append_assoc, ← Hh.out] at hA2
            clear hA ha y1a y2a
            clear Hh
            have hn3 : n + 1 ≤ 3 := by omega
            obtain ⟨N, hN⟩ : ∃ N, N = n + 1 := ⟨_, rfl⟩
            rw [← hN] at hA2 hn3 ⊢
            clear hN hn
            have hA3 : MvA w3 w6 w3.heap.size none N (befL true psk b0 b1 ls 0) ao2 cap2 := by
              rw [show befL true psk b0 b1 ls 0 = headM true b0 b1 ls from List.append_nil _]; exact hA2
            clear hA2
            go_loopw [9, 61] (fun l i wr => ∃ k n cap ao, k ≤ 2 ∧ i = .int .i64 (k : Nat) ∧ l = .slice ao n cap ∧ n ≤ 3 + 4 * k ∧ MvA w3 wr w3.heap.size none n (befL true psk b0 b1 ls k) ao cap) (fun _ i _ => 2 - (intOf i).toNat)
            case atStart => exact ⟨0, N, cap2, ao2, by omega, rfl, rfl, by omega, hA3⟩
            case round =>
              clear hA3
              obtain ⟨k, n, cap, ao, hk, rfl, rfl, hn, hA⟩ := hrel
              rcases (show k = 0 ∨ k = 1 ∨ k = 2 by omega) with rfl | rfl | rfl
              · rw [show ((0 : Nat) : Int) = 0 from rfl]
                have hI := Kp.is (Kp.trans hkw hA.keeps) h0
                have hA0 : MvA w3 wr w3.heap.size none n (befL true psk b0 b1 ls 0 ++ (b0.take 0).flatMap (befM false psk)) ao cap := by rw [List.take_zero, List.flatMap_nil, List.append_nil]; exact hA
                clear hA
                go_wp2_with fail
                obtain ⟨wo, rfl⟩ : ∃ wo : World, wo = wr := ⟨_, rfl⟩
                go_loopw [9, 67] (fun l i wr => ∃ j n cap ao, j ≤ n0 ∧ i = .int .i64 (j : Nat) ∧ l = .slice ao n cap ∧ n ≤ 3 + 2 * j ∧ MvA w3 wr w3.heap.size none n (befL true psk b0 b1 ls 0 ++ (b0.take j).flatMap (befM false psk)) ao cap) (fun _ i _ => n0 - (intOf i).toNat)
                case atStart => exact ⟨0, n, cap, ao, by omega, rfl, rfl, by omega, hA0⟩
                case round =>
                  clear hA0 hI hn
                  obtain ⟨j, n, cap, ao, hj, rfl, rfl, hn, hA⟩ := hrel
                  by_cases hjn : j < n0
                  · obtain ⟨tb, toff, rfl, _, hcc⟩ := (Kp.is (Kp.trans hkw hA.keeps) h0).at j hjn
                    have hck := hcc j hjn
                    have hjl : j < b0.length := by rw [Hl0.out]; exact hjn
                    have hsucc := flatMap_take (befM false psk) b0 j hjl
                    have hval := Hb0.out j hjl
                    clear hcc
                    generalize b0[j]'hjl = t at hck hsucc hval
                    have Hsucc := Lib.hid hsucc; clear hsucc
                    rcases hval with rfl | rfl
                    · cases psk with
                      | true =>
                        go_wp2_with (first | (at_builtin; refine wpList_mv1 rfl (.tmp 77) (.tmp 80) rfl rfl hA.own ⟨3, 1, 0⟩ rfl (by simp) (by omega) hA.keeps.size ?_; intro aoa capa wa haa; have hAa := hA.trans haa) | (at_builtin; refine wpList_mv1 rfl (.tmp 87) (.tmp 90) rfl rfl hAa.own ⟨4, 1, 0⟩ rfl (by simp) (by omega) hAa.keeps.size ?_; intro aob capb wb hab; have hAb := hAa.trans hab))
                        go_roundw
                        case rel =>
                          refine ⟨j + 1, n + 1 + 1, capb, aob, by omega, by go_num, rfl, by omega, ?_⟩
                          rw [Hsucc.out, ← List.append_assoc]
                          rw [List.append_assoc] at hAb
                          exact hAb
                        case measure => simp [intOf]; omega
                      | false =>
                        go_wp2_with (at_builtin; refine wpList_mv1 rfl (.tmp 77) (.tmp 80) rfl rfl hA.own ⟨3, 1, 0⟩ rfl (by simp) (by omega) hA.keeps.size ?_; intro aoa capa wa haa; have hAa := hA.trans haa)
                        go_roundw
                        case rel =>
                          refine ⟨j + 1, n + 1, capa, aoa, by omega, by go_num, rfl, by omega, ?_⟩
                          rw [Hsucc.out, ← List.append_assoc]
                          exact hAa
                        case measure => simp [intOf]; omega
                    · go_wp2_with (at_builtin; refine wpList_mv1 rfl (.tmp 77) (.tmp 80) rfl rfl hA.own ⟨3, 2, 0⟩ rfl (by simp) (by omega) hA.keeps.size ?_; intro aoa capa wa haa; have hAa := hA.trans haa)
                      go_roundw
                      case rel =>
                        refine ⟨j + 1, n + 1, capa, aoa, by omega, by go_num, rfl, by omega, ?_⟩
                        rw [Hsucc.out, ← List.append_assoc]
                        exact hAa
                      case measure => simp [intOf]; omega
                  · obtain rfl : n0 = j := by omega
                    rw [List.take_of_length_le (by rw [Hl0.out]; exact Nat.le_refl _)] at hA
                    go_wp2_with fail
                    go_roundw
                    case rel => exact ⟨1, n, cap, ao, by omega, rfl, rfl, by omega, (befL_1 true psk b0 b1 ls) ▸ hA⟩
                    case measure => simp [intOf]
              · rw [show ((1 : Nat) : Int) = 1 from rfl]
                have hI := Kp.is (Kp.trans hkw hA.keeps) h1
                have hA0 : MvA w3 wr w3.heap.size none n (befL true psk b0 b1 ls 1 ++ (b1.take 0).flatMap (befM true psk)) ao cap := by rw [List.take_zero, List.flatMap_nil, List.append_nil]; exact hA
                clear hA
                go_wp2_with fail
                obtain ⟨wo, rfl⟩ : ∃ wo : World, wo = wr := ⟨_, rfl⟩
                go_loopw [9, 67] (fun l i wr => ∃ j n cap ao, j ≤ n1 ∧ i = .int .i64 (j : Nat) ∧ l = .slice ao n cap ∧ n ≤ 7 + 2 * j ∧ MvA w3 wr w3.heap.size none n (befL true psk b0 b1 ls 1 ++ (b1.take j).flatMap (befM true psk)) ao cap) (fun _ i _ => n1 - (intOf i).toNat)
                case atStart => exact ⟨0, n, cap, ao, by omega, rfl, rfl, by omega, hA0⟩
                case round =>
                  clear hA0 hI hn
                  obtain ⟨j, n, cap, ao, hj, rfl, rfl, hn, hA⟩ := hrel
                  by_cases hjn : j < n1
                  · obtain ⟨tb, toff, rfl, _, hcc⟩ := (Kp.is (Kp.trans hkw hA.keeps) h1).at j hjn
                    have hck := hcc j hjn
                    have hjl : j < b1.length := by rw [Hl1.out]; exact hjn
                    have hsucc := flatMap_take (befM true psk) b1 j hjl
                    have hval := Hb1.out j hjl
                    clear hcc
                    generalize b1[j]'hjl = t at hck hsucc hval
                    have Hsucc := Lib.hid hsucc; clear hsucc
                    rcases hval with rfl | rfl
                    · cases psk with
                      | true =>
                        go_wp2_with (first | (at_builtin; refine wpList_mv1 rfl (.tmp 77) (.tmp 80) rfl rfl hA.own ⟨3, 3, 0⟩ rfl (by simp) (by omega) hA.keeps.size ?_; intro aoa capa wa haa; have hAa := hA.trans haa) | (at_builtin; refine wpList_mv1 rfl (.tmp 87) (.tmp 90) rfl rfl hAa.own ⟨4, 3, 0⟩ rfl (by simp) (by omega) hAa.keeps.size ?_; intro aob capb wb hab; have hAb := hAa.trans hab))
                        go_roundw
                        case rel =>
                          refine ⟨j + 1, n + 1 + 1, capb, aob, by omega, by go_num, rfl, by omega, ?_⟩
                          rw [Hsucc.out, ← List.append_assoc]
                          rw [List.append_assoc] at hAb
                          exact hAb
                        case measure => simp [intOf]; omega
                      | false =>
                        go_wp2_with (at_builtin; refine wpList_mv1 rfl (.tmp 77) (.tmp 80) rfl rfl hA.own ⟨3, 3, 0⟩ rfl (by simp) (by omega) hA.keeps.size ?_; intro aoa capa wa haa; have hAa := hA.trans haa)
                        go_roundw
                        case rel =>
                          refine ⟨j + 1, n + 1, capa, aoa, by omega, by go_num, rfl, by omega, ?_⟩
                          rw [Hsucc.out, ← List.append_assoc]
                          exact hAa
                        case measure => simp [intOf]; omega
                    · go_wp2_with (at_builtin; refine wpList_mv1 rfl (.tmp 77) (.tmp 80) rfl rfl hA.own ⟨3, 4, 0⟩ rfl (by simp) (by omega) hA.keeps.size ?_; intro aoa capa wa haa; have hAa := hA.trans haa)
                      go_roundw
                      case rel =>
                        refine ⟨j + 1, n + 1, capa, aoa, by omega, by go_num, rfl, by omega, ?_⟩
                        rw [Hsucc.out, ← List.append_assoc]
                        exact hAa
                      case measure => simp [intOf]; omega
                  · obtain rfl : n1 = j := by omega
                    rw [List.take_of_length_le (by rw [Hl1.out]; exact Nat.le_refl _)] at hA
                    go_wp2_with fail
                    go_roundw
                    case rel => exact ⟨2, n, cap, ao, by omega, rfl, rfl, by omega, (befL_2 true psk b0 b1 ls) ▸ hA⟩
                    case measure => simp [intOf]
              · rw [show ((2 : Nat) : Int) = 2 from rfl]
                obtain ⟨w7, rfl⟩ : ∃ x : World, x = wr := ⟨_, rfl⟩
                go_wp2_with fail
                (with_reducible refine (moves_any w7 true).mono ?_)
                rintro e w8 ⟨r, rfl, hM, hk8⟩
                have hA8 := hA.kp hk8
                have hr := hA8.own.no_map hM
                have hlt7 : ∀ j ∈ blkL ao, j < w7.heap.size := fun j hj => (hA.own.lt j hj).2
                have Hlt7 := Lib.hid hlt7
                have hB0 := MvA.refl hA8.own
                have hk38 := hA8.keeps
                clear hA hlt7 hk8
                have y3 := Kp.cell hk38 y3
                obtain ⟨L8, hL8⟩ : ∃ L8, L8 = befL true psk b0 b1 ls 2 := ⟨_, rfl⟩
                rw [← hL8] at hB0 hA8
                have HL8 := Lib.hid hL8; clear hL8
                go_wp2_with fail
                have hB0 : MvA w8 w8 w3.heap.size ao n (L8 ++ (ls.take 0).flatMap (lineM true psk)) ao cap := by rw [List.take_zero, List.flatMap_nil, List.append_nil]; exact hB0
                have hfar : ∀ w' N ms ao' c', MvA w8 w' w3.heap.size ao N ms ao' c' → Kp w w' ∧ MapIn w' r w7.heap.size true (KK 2) ∧ Kp w3 w' := fun w' N ms ao' c' h =>
                  ⟨Kp.trans hkw (hA8.trans h).keeps, hM.keep h.fr hr (fun j hj => .inl (Hlt7.out j hj)), (hA8.trans h).keeps⟩
                have Hfar := Lib.hid hfar; clear hfar
                go_loopw [9, 99] (fun l i wr => ∃ k n2 cap2 ao2, k ≤ nl ∧ i = .int .i64 (k : Nat) ∧ l = .slice ao2 n2 cap2 ∧ n2 ≤ 20 + 100 * k ∧ MvA w8 wr w3.heap.size ao n2 (L8 ++ (ls.take k).flatMap (lineM true psk)) ao2 cap2) (fun _ i _ => nl - (intOf i).toNat)
                case atStart => exact ⟨0, n, cap, ao, by omega, rfl, rfl, by omega, hB0⟩
                case round =>
                  clear hB0
                  obtain ⟨k, n2, cap2, ao2, hk, rfl, rfl, hn2, hB⟩ := hrel
                  by_cases hlt : k < nl
                  · have hkl : k < ls.length := by rw [Hll.out]; exact hlt
                    obtain ⟨hkr, _, _⟩ := Hfar.out _ _ _ _ _ hB
                    obtain ⟨b, off, tp, tn, tc, rfl, hc1, hc2, hI, htn⟩ := hl.2.2 k hkl
                    have hc1 := Kp.cell hkr hc1
                    have hc2 := Kp.cell hkr hc2
                    obtain ⟨hfm, htpos, htm⟩ := Hmem.out k hkl
                    have htn24 := Hlts.out k hkl
                    have hsucc := flatMap_take (lineM true psk) ls k hkl
                    obtain ⟨f, ts, hft⟩ : ∃ f ts, ls[k] = (f, ts) := ⟨_, _, rfl⟩
                    rw [hft] at hc1 hI hfm htm htn24 hsucc
                    have hI : Is w tp tn ts := hI
                    have hc1 : wr.cell? ⟨b, off + k * 2, none⟩ = some (iv f) := hc1
                    have hfm : f = 0 ∨ f = 1 := hfm
                    have Htl := Lib.hid (show ts.length = tn from hI.1)
                    have htn24 : tn ≤ 24 := by rw [← Htl.out]; exact htn24
                    have Htm := Lib.hid htm
                    have Hsucc := Lib.hid hsucc
                    have HI := Lib.hid hI
                    clear htm hsucc hI hft htpos
                    have hsz := hB.fr.size
                    have hwr : w3.heap.size ≤ wr.heap.size := by have := hk38.size; omega
                    have hnb : wr.heap.size ∉ blkL ao2 := fun h => by have := (hB.own.lt _ h).2; omega
                    rcases hfm with rfl | rfl
                    · go_wp2_with (at_builtin; refine wpList_mv1 rfl (.tmp 108) (.tmp 111) rfl rfl (hB.kp (Kp.new wr (.cells #[iv 0, .slice tp tn tc] 60))).own ⟨5, 0, 0⟩ rfl (by simp) (by omega) (Nat.le_trans hwr (Kp.new _ _).size) ?_; intro ao3 cap3 wq ha; have hd1 := ha.fr.cell (show (wr.alloc (.cells #[iv 0, .slice tp tn tc] 60)).cell? ⟨wr.heap.size, 1, none⟩ = some (.slice tp tn tc) by rw [World.cell?_alloc_at _ _ _ _ rfl]; rfl) hnb)
                      have hC := (hB.kp (Kp.new wr (.cells #[iv 0, .slice tp tn tc] 60))).trans ha
                      clear ha
                      obtain ⟨n3, hn3⟩ : ∃ x, x = n2 + 1 := ⟨_, rfl⟩
                      rw [← hn3] at hC ⊢
                      have hn3b : n3 ≤ 21 + 100 * k := by omega
                      clear hn3
                      obtain ⟨LQ, hLQ⟩ : ∃ x, x = L8 ++ (ls.take k).flatMap (lineM true psk) ++ [(⟨5, 0, 0⟩ : Mv)] := ⟨_, rfl⟩
                      rw [← hLQ] at hC
                      have HLQ := Lib.hid hLQ; clear hLQ
                      have hC0 : MvA w8 wq w3.heap.size ao n3 (LQ ++ (ts.take 0).flatMap (tokM true true psk)) ao3 cap3 := by rw [List.take_zero, List.flatMap_nil, List.append_nil]; exact hC
                      clear hC
                      go_loopw [9, 116] (fun l i wv => ∃ j n4 cap4 ao4, j ≤ tn ∧ i = .int .i64 (j : Nat) ∧ l = .slice ao4 n4 cap4 ∧ n4 ≤ 21 + 100 * k + 3 * j ∧ MvA w8 wv w3.heap.size ao n4 (LQ ++ (ts.take j).flatMap (tokM true true psk)) ao4 cap4) (fun _ i _ => tn - (intOf i).toNat)
                      case atStart => exact ⟨0, n3, cap3, ao3, by omega, rfl, rfl, by omega, hC0⟩
                      case round =>
                        clear hC0
                        obtain ⟨j, n4, cap4, ao4, hj, rfl, rfl, hn4, hD⟩ := hrel
                        obtain ⟨hkv, hMv, hk3v⟩ := Hfar.out _ _ _ _ _ hD
                        have hwv := hk3v.size
                        by_cases hjt : j < tn
                        · have hjl : j < ts.length := by rw [Htl.out]; exact hjt
                          obtain ⟨tb, toff, rfl, _, hcc⟩ := (Kp.is hkv HI.out).at j hjt
                          have hck := hcc j hjt
                          obtain ⟨ht1, ht7⟩ := Htm.out j hjl
                          have hsuc2 : LQ ++ (ts.take (j + 1)).flatMap (tokM true true psk) = LQ ++ (ts.take j).flatMap (tokM true true psk) ++ tokM true true psk ts[j] := by rw [flatMap_take _ ts j hjl, List.append_assoc]
                          clear hcc
                          generalize ts[j]'hjl = t at hck ht1 ht7 hsuc2
                          have Hsuc2 := Lib.hid hsuc2; clear hsuc2
                          by_cases ht : t = 1
                          · subst ht
                            cases psk with
                            | true =>
                              have HT := Lib.hid (show tokM true true true 1 = movesL true 1 true ++ [⟨4, 1, 0⟩] from rfl)
                              obtain ⟨yo, yn, yc, hrun, hy⟩ := hMv.get (1, true) (KK_all 1 true (by omega) (by omega))
                              have hrun : (Instr.lookup 57 (.map (some r)) (.agg #[.int .i64 1, .bool true]) false).run Tryd.prog wr = .ok (.slice yo yn yc) wr := hrun
                              have hyl : yn ≤ 2 := by rw [← hy.1.1]; exact movesL_len _ _ _
                              have hyc : Mvs wr yo yn ([⟨7, 1, 0⟩, ⟨3, 1, 0⟩] : List Mv) := hy.1
                              obtain rfl : yn = 2 := hyc.1.symm
                              obtain ⟨yb, yoff, rfl, hyy⟩ := hyc.2.2.at 0 (by simp [mvc])
                              have hkey : wr.cell? ⟨yb, yoff + 1, none⟩ = some (iv 1) := hyy 1 _ rfl
                              clear hyy hyc
                              have hyb := World.block_lt_of_cell? wr _ hkey
                              have Hy := Lib.hid hy; clear hy
                              go_wp2_with fail
                              have hg0 : ((wr.alloc (.cells #[iv 4, iv 1, iv 0] 56)).alloc (.cells #[.slice (some ⟨yb, yoff, none⟩) 2 yc, .slice (some ⟨wr.heap.size, 0, none⟩) 1 1] 30)).cell? ⟨(wr.alloc (.cells #[iv 4, iv 1, iv 0] 56)).heap.size, 0, none⟩ = some (.slice (some ⟨yb, yoff, none⟩) 2 yc) := by rw [World.cell?_alloc_at _ _ _ _ rfl]; rfl
                              have hg1 : ((wr.alloc (.cells #[iv 4, iv 1, iv 0] 56)).alloc (.cells #[.slice (some ⟨yb, yoff, none⟩) 2 yc, .slice (some ⟨wr.heap.size, 0, none⟩) 1 1] 30)).cell? ⟨(wr.alloc (.cells #[iv 4, iv 1, iv 0] 56)).heap.size, 1, none⟩ = some (.slice (some ⟨wr.heap.size, 0, none⟩) 1 1) := by rw [World.cell?_alloc_at _ _ _ _ rfl]; rfl
                              have hrow := row_any ((wr.alloc (.cells #[iv 4, iv 1, iv 0] 56)).alloc (.cells #[.slice (some ⟨yb, yoff, none⟩) 2 yc, .slice (some ⟨wr.heap.size, 0, none⟩) 1 1] 30)) w3.heap.size (Nat.le_trans hwv (Kp.trans (Kp.new wr (.cells #[iv 4, iv 1, iv 0] 56)) (Kp.new _ (.cells #[.slice (some ⟨yb, yoff, none⟩) 2 yc, .slice (some ⟨wr.heap.size, 0, none⟩) 1 1] 30))).size) ao4 (some ⟨yb, yoff, none⟩) (some ⟨wr.heap.size, 0, none⟩) n4 cap4 2 yc 1 1 _ (movesL true 1 true) [⟨4, 1, 0⟩] (hD.own.keep (Kp.trans (Kp.new wr (.cells #[iv 4, iv 1, iv 0] 56)) (Kp.new _ (.cells #[.slice (some ⟨yb, yoff, none⟩) 2 yc, .slice (some ⟨wr.heap.size, 0, none⟩) 1 1] 30)))) ((wr.alloc (.cells #[iv 4, iv 1, iv 0] 56)).heap.size) hg0 hg1 (fun hx => absurd (hD.own.lt _ hx).2 (by simp)) (Kp.mvs (Kp.trans (Kp.new wr (.cells #[iv 4, iv 1, iv 0] 56)) (Kp.new _ (.cells #[.slice (some ⟨yb, yoff, none⟩) 2 yc, .slice (some ⟨wr.heap.size, 0, none⟩) 1 1] 30))) Hy.out.1) (Kp.mvs (Kp.new _ _) (⟨rfl, by unfold maxLen; omega, Cs.new wr [iv 4, iv 1, iv 0] 56 (0, 0)⟩ : Mvs (wr.alloc (.cells #[iv 4, iv 1, iv 0] 56)) (some ⟨wr.heap.size, 0, none⟩) 1 [⟨4, 1, 0⟩])) (fun j hj hj2 => by rw [mem_blkL_some] at hj; have := (hD.own.lt j hj2).2; omega) (by omega)
                              have Hrow := Lib.hid hrow; clear hrow hg0 hg1
                              try simp only [World.size_alloc] at Hrow
                              (with_reducible refine Hrow.out.mono ?_)
                              rintro e w9 ⟨ao5, cap5, rfl, hR⟩
                              have hE5 := (hD.kp (Kp.trans (Kp.new wr (.cells #[iv 4, iv 1, iv 0] 56)) (Kp.new _ (.cells #[.slice (some ⟨yb, yoff, none⟩) 2 yc, .slice (some ⟨wr.heap.size, 0, none⟩) 1 1] 30)))).trans hR
                              clear Hrow hR
                              go_wp2_with fail
                              go_roundw
                              case rel =>
                                refine ⟨j + 1, n4 + 2 + 1, cap5, ao5, by omega, by go_num, rfl, by omega, ?_⟩
                                rw [Hsuc2.out, HT.out]
                                rw [List.append_assoc (LQ ++ _) _ _] at hE5
                                exact hE5
                              case measure => simp [intOf]; omega
                            | false =>
                              have HT := Lib.hid (show tokM true true false 1 = movesL true 1 true ++ [] from rfl)
                              obtain ⟨yo, yn, yc, hrun, hy⟩ := hMv.get (1, true) (KK_all 1 true (by omega) (by omega))
                              have hrun : (Instr.lookup 57 (.map (some r)) (.agg #[.int .i64 1, .bool true]) false).run Tryd.prog wr = .ok (.slice yo yn yc) wr := hrun
                              have hyl : yn ≤ 2 := by rw [← hy.1.1]; exact movesL_len _ _ _
                              have Hy := Lib.hid hy; clear hy
                              go_wp2_with fail
                              have hg0 : (wr.alloc (.cells #[.slice yo yn yc, .slice none 0 0] 30)).cell? ⟨wr.heap.size, 0, none⟩ = some (.slice yo yn yc) := by rw [World.cell?_alloc_at _ _ _ _ rfl]; rfl
                              have hg1 : (wr.alloc (.cells #[.slice yo yn yc, .slice none 0 0] 30)).cell? ⟨wr.heap.size, 1, none⟩ = some (.slice none 0 0) := by rw [World.cell?_alloc_at _ _ _ _ rfl]; rfl
                              have hrow := row_any (wr.alloc (.cells #[.slice yo yn yc, .slice none 0 0] 30)) w3.heap.size (Nat.le_trans hwv (Kp.new wr (.cells #[.slice yo yn yc, .slice none 0 0] 30)).size) ao4 yo none n4 cap4 yn yc 0 0 _ (movesL true 1 true) [] (hD.own.keep (Kp.new wr (.cells #[.slice yo yn yc, .slice none 0 0] 30))) (wr.heap.size) hg0 hg1 (fun hx => absurd (hD.own.lt _ hx).2 (by simp)) (Kp.mvs (Kp.new wr (.cells #[.slice yo yn yc, .slice none 0 0] 30)) Hy.out.1) (⟨rfl, Nat.zero_le _, fun j u hu => by simp at hu⟩ : Mvs _ none 0 []) (fun j hj => by simp [blkL, blk] at hj) (by omega)
                              have Hrow := Lib.hid hrow; clear hrow hg0 hg1
                              (with_reducible refine Hrow.out.mono ?_)
                              rintro e w9 ⟨ao5, cap5, rfl, hR⟩
                              have hE5 := (hD.kp (Kp.new wr (.cells #[.slice yo yn yc, .slice none 0 0] 30))).trans hR
                              clear Hrow hR
                              go_wp2_with fail
                              go_roundw
                              case rel =>
                                refine ⟨j + 1, n4 + yn + 0, cap5, ao5, by omega, by go_num, rfl, by omega, ?_⟩
                                rw [Hsuc2.out, HT.out]
                                rw [List.append_assoc (LQ ++ _) _ _] at hE5
                                exact hE5
                              case measure => simp [intOf]; omega
                          · have htb : (t == 1) = false := by simpa using ht
                            have HT := Lib.hid (show tokM true true psk t = movesL true t true ++ [] by unfold tokM mixM; rw [htb]; rfl)
                            clear ht
                            obtain ⟨yo, yn, yc, hrun, hy⟩ := hMv.get (t, true) (KK_all t true ht1 ht7)
                            have hrun : (Instr.lookup 57 (.map (some r)) (.agg #[.int .i64 t, .bool true]) false).run Tryd.prog wr = .ok (.slice yo yn yc) wr := hrun
                            have hyl : yn ≤ 2 := by rw [← hy.1.1]; exact movesL_len _ _ _
                            have Hy := Lib.hid hy; clear hy
                            go_wp2_with fail
                            have hg0 : (wr.alloc (.cells #[.slice yo yn yc, .slice none 0 0] 30)).cell? ⟨wr.heap.size, 0, none⟩ = some (.slice yo yn yc) := by rw [World.cell?_alloc_at _ _ _ _ rfl]; rfl
                            have hg1 : (wr.alloc (.cells #[.slice yo yn yc, .slice none 0 0] 30)).cell? ⟨wr.heap.size, 1, none⟩ = some (.slice none 0 0) := by rw [World.cell?_alloc_at _ _ _ _ rfl]; rfl
                            have hrow := row_any (wr.alloc (.cells #[.slice yo yn yc, .slice none 0 0] 30)) w3.heap.size (Nat.le_trans hwv (Kp.new wr (.cells #[.slice yo yn yc, .slice none 0 0] 30)).size) ao4 yo none n4 cap4 yn yc 0 0 _ (movesL true t true) [] (hD.own.keep (Kp.new wr (.cells #[.slice yo yn yc, .slice none 0 0] 30))) (wr.heap.size) hg0 hg1 (fun hx => absurd (hD.own.lt _ hx).2 (by simp)) (Kp.mvs (Kp.new wr (.cells #[.slice yo yn yc, .slice none 0 0] 30)) Hy.out.1) (⟨rfl, Nat.zero_le _, fun j u hu => by simp at hu⟩ : Mvs _ none 0 []) (fun j hj => by simp [blkL, blk] at hj) (by omega)
                            have Hrow := Lib.hid hrow; clear hrow hg0 hg1
                            (with_reducible refine Hrow.out.mono ?_)
                            rintro e w9 ⟨ao5, cap5, rfl, hR⟩
                            have hE5 := (hD.kp (Kp.new wr (.cells #[.slice yo yn yc, .slice none 0 0] 30))).trans hR
                            clear Hrow hR
                            go_wp2_with fail
                            go_roundw
                            case rel =>
                              refine ⟨j + 1, n4 + yn + 0, cap5, ao5, by omega, by go_num, rfl, by omega, ?_⟩
                              rw [Hsuc2.out, HT.out]
                              rw [List.append_assoc (LQ ++ _) _ _] at hE5
                              exact hE5
                            case measure => simp [intOf]; omega
                        · obtain rfl : tn = j := by omega
                          rw [List.take_of_length_le (by rw [Htl.out]; exact Nat.le_refl _)] at hD
                          go_wp2_with (at_builtin; refine wpList_mv1 rfl (.tmp 142) (.tmp 144) rfl rfl hD.own ⟨13, 0, 0⟩ rfl (by simp) (by omega) hwv ?_; intro ao5 cap5 w9 ha)
                          have hE5 := hD.trans ha
                          go_roundw
                          case rel =>
                            refine ⟨k + 1, n4 + 1, cap5, ao5, by omega, by go_num, rfl, by omega, ?_⟩
                            rw [Hsucc.out, show lineM true psk ((0 : Int), ts) = [(⟨5, 0, 0⟩ : Mv)] ++ (ts.flatMap (tokM true true psk) ++ [⟨13, 0, 0⟩]) from rfl, ← List.append_assoc, ← List.append_assoc, ← HLQ.out, ← List.append_assoc]
                            exact hE5
                          case measure => simp [intOf]; omega
                    · go_wp2_with (at_builtin; refine wpList_mv1 rfl (.tmp 108) (.tmp 111) rfl rfl (hB.kp (Kp.new wr (.cells #[iv 1, .slice tp tn tc] 60))).own ⟨6, 0, 0⟩ rfl (by simp) (by omega) (Nat.le_trans hwr (Kp.new _ _).size) ?_; intro ao3 cap3 wq ha; have hd1 := ha.fr.cell (show (wr.alloc (.cells #[iv 1, .slice tp tn tc] 60)).cell? ⟨wr.heap.size, 1, none⟩ = some (.slice tp tn tc) by rw [World.cell?_alloc_at _ _ _ _ rfl]; rfl) hnb)
                      have hC := (hB.kp (Kp.new wr (.cells #[iv 1, .slice tp tn tc] 60))).trans ha
                      clear ha
                      obtain ⟨n3, hn3⟩ : ∃ x, x = n2 + 1 := ⟨_, rfl⟩
                      rw [← hn3] at hC ⊢
                      have hn3b : n3 ≤ 21 + 100 * k := by omega
                      clear hn3
                      obtain ⟨LQ, hLQ⟩ : ∃ x, x = L8 ++ (ls.take k).flatMap (lineM true psk) ++ [(⟨6, 0, 0⟩ : Mv)] := ⟨_, rfl⟩
                      rw [← hLQ] at hC
                      have HLQ := Lib.hid hLQ; clear hLQ
                      have hC0 : MvA w8 wq w3.heap.size ao n3 (LQ ++ (ts.take 0).flatMap (tokM true false psk)) ao3 cap3 := by rw [List.take_zero, List.flatMap_nil, List.append_nil]; exact hC
                      clear hC
                      go_loopw [9, 116] (fun l i wv => ∃ j n4 cap4 ao4, j ≤ tn ∧ i = .int .i64 (j : Nat) ∧ l = .slice ao4 n4 cap4 ∧ n4 ≤ 21 + 100 * k + 3 * j ∧ MvA w8 wv w3.heap.size ao n4 (LQ ++ (ts.take j).flatMap (tokM true false psk)) ao4 cap4) (fun _ i _ => tn - (intOf i).toNat)
                      case atStart => exact ⟨0, n3, cap3, ao3, by omega, rfl, rfl, by omega, hC0⟩
                      case round =>
                        clear hC0
                        obtain ⟨j, n4, cap4, ao4, hj, rfl, rfl, hn4, hD⟩ := hrel
                        obtain ⟨hkv, hMv, hk3v⟩ := Hfar.out _ _ _ _ _ hD
                        have hwv := hk3v.size
                        by_cases hjt : j < tn
                        · have hjl : j < ts.length := by rw [Htl.out]; exact hjt
                          obtain ⟨tb, toff, rfl, _, hcc⟩ := (Kp.is hkv HI.out).at j hjt
                          have hck := hcc j hjt
                          obtain ⟨ht1, ht7⟩ := Htm.out j hjl
                          have hsuc2 : LQ ++ (ts.take (j + 1)).flatMap (tokM true false psk) = LQ ++ (ts.take j).flatMap (tokM true false psk) ++ tokM true false psk ts[j] := by rw [flatMap_take _ ts j hjl, List.append_assoc]
                          clear hcc
                          generalize ts[j]'hjl = t at hck ht1 ht7 hsuc2
                          have Hsuc2 := Lib.hid hsuc2; clear hsuc2
                          by_cases ht : t = 1
                          · subst ht
                            cases psk with
                            | true =>
                              have HT := Lib.hid (show tokM true false true 1 = movesL true 1 false ++ [⟨4, 3, 0⟩] from rfl)
                              obtain ⟨yo, yn, yc, hrun, hy⟩ := hMv.get (1, false) (KK_all 1 false (by omega) (by omega))
                              have hrun : (Instr.lookup 57 (.map (some r)) (.agg #[.int .i64 1, .bool false]) false).run Tryd.prog wr = .ok (.slice yo yn yc) wr := hrun
                              have hyl : yn ≤ 2 := by rw [← hy.1.1]; exact movesL_len _ _ _
                              have hyc : Mvs wr yo yn ([⟨8, 3, 0⟩, ⟨3, 3, 0⟩] : List Mv) := hy.1
                              obtain rfl : yn = 2 := hyc.1.symm
                              obtain ⟨yb, yoff, rfl, hyy⟩ := hyc.2.2.at 0 (by simp [mvc])
                              have hkey : wr.cell? ⟨yb, yoff + 1, none⟩ = some (iv 3) := hyy 1 _ rfl
                              clear hyy hyc
                              have hyb := World.block_lt_of_cell? wr _ hkey
                              have Hy := Lib.hid hy; clear hy
                              go_wp2_with fail
                              have hg0 : ((wr.alloc (.cells #[iv 4, iv 3, iv 0] 56)).alloc (.cells #[.slice (some ⟨yb, yoff, none⟩) 2 yc, .slice (some ⟨wr.heap.size, 0, none⟩) 1 1] 30)).cell? ⟨(wr.alloc (.cells #[iv 4, iv 3, iv 0] 56)).heap.size, 0, none⟩ = some (.slice (some ⟨yb, yoff, none⟩) 2 yc) := by rw [World.cell?_alloc_at _ _ _ _ rfl]; rfl
                              have hg1 : ((wr.alloc (.cells #[iv 4, iv 3, iv 0] 56)).alloc (.cells #[.slice (some ⟨yb, yoff, none⟩) 2 yc, .slice (some ⟨wr.heap.size, 0, none⟩) 1 1] 30)).cell? ⟨(wr.alloc (.cells #[iv 4, iv 3, iv 0] 56)).heap.size, 1, none⟩ = some (.slice (some ⟨wr.heap.size, 0, none⟩) 1 1) := by rw [World.cell?_alloc_at _ _ _ _ rfl]; rfl
                              have hrow := row_any ((wr.alloc (.cells #[iv 4, iv 3, iv 0] 56)).alloc (.cells #[.slice (some ⟨yb, yoff, none⟩) 2 yc, .slice (some ⟨wr.heap.size, 0, none⟩) 1 1] 30)) w3.heap.size (Nat.le_trans hwv (Kp.trans (Kp.new wr (.cells #[iv 4, iv 3, iv 0] 56)) (Kp.new _ (.cells #[.slice (some ⟨yb, yoff, none⟩) 2 yc, .slice (some ⟨wr.heap.size, 0, none⟩) 1 1] 30))).size) ao4 (some ⟨yb, yoff, none⟩) (some ⟨wr.heap.size, 0, none⟩) n4 cap4 2 yc 1 1 _ (movesL true 1 false) [⟨4, 3, 0⟩] (hD.own.keep (Kp.trans (Kp.new wr (.cells #[iv 4, iv 3, iv 0] 56)) (Kp.new _ (.cells #[.slice (some ⟨yb, yoff, none⟩) 2 yc, .slice (some ⟨wr.heap.size, 0, none⟩) 1 1] 30)))) ((wr.alloc (.cells #[iv 4, iv 3, iv 0] 56)).heap.size) hg0 hg1 (fun hx => absurd (hD.own.lt _ hx).2 (by simp)) (Kp.mvs (Kp.trans (Kp.new wr (.cells #[iv 4, iv 3, iv 0] 56)) (Kp.new _ (.cells #[.slice (some ⟨yb, yoff, none⟩) 2 yc, .slice (some ⟨wr.heap.size, 0, none⟩) 1 1] 30))) Hy.out.1) (Kp.mvs (Kp.new _ _) (⟨rfl, by unfold maxLen; omega, Cs.new wr [iv 4, iv 3, iv 0] 56 (0, 0)⟩ : Mvs (wr.alloc (.cells #[iv 4, iv 3, iv 0] 56)) (some ⟨wr.heap.size, 0, none⟩) 1 [⟨4, 3, 0⟩])) (fun j hj hj2 => by rw [mem_blkL_some] at hj; have := (hD.own.lt j hj2).2; omega) (by omega)
                              have Hrow := Lib.hid hrow; clear hrow hg0 hg1
                              try simp only [World.size_alloc] at Hrow
                              (with_reducible refine Hrow.out.mono ?_)
                              rintro e w9 ⟨ao5, cap5, rfl, hR⟩
                              have hE5 := (hD.kp (Kp.trans (Kp.new wr (.cells #[iv 4, iv 3, iv 0] 56)) (Kp.new _ (.cells #[.slice (some ⟨yb, yoff, none⟩) 2 yc, .slice (some ⟨wr.heap.size, 0, none⟩) 1 1] 30)))).trans hR
                              clear Hrow hR
                              go_wp2_with fail
                              go_roundw
                              case rel =>
                                refine ⟨j + 1, n4 + 2 + 1, cap5, ao5, by omega, by go_num, rfl, by omega, ?_⟩
                                rw [Hsuc2.out, HT.out]
                                rw [List.append_assoc (LQ ++ _) _ _] at hE5
                                exact hE5
                              case measure => simp [intOf]; omega
                            | false =>
                              have HT := Lib.hid (show tokM true false false 1 = movesL true 1 false ++ [] from rfl)
                              obtain ⟨yo, yn, yc, hrun, hy⟩ := hMv.get (1, false) (KK_all 1 false (by omega) (by omega))
                              have hrun : (Instr.lookup 57 (.map (some r)) (.agg #[.int .i64 1, .bool false]) false).run Tryd.prog wr = .ok (.slice yo yn yc) wr := hrun
                              have hyl : yn ≤ 2 := by rw [← hy.1.1]; exact movesL_len _ _ _
                              have Hy := Lib.hid hy; clear hy
                              go_wp2_with fail
                              have hg0 : (wr.alloc (.cells #[.slice yo yn yc, .slice none 0 0] 30)).cell? ⟨wr.heap.size, 0, none⟩ = some (.slice yo yn yc) := by rw [World.cell?_alloc_at _ _ _ _ rfl]; rfl
                              have hg1 : (wr.alloc (.cells #[.slice yo yn yc, .slice none 0 0] 30)).cell? ⟨wr.heap.size, 1, none⟩ = some (.slice none 0 0) := by rw [World.cell?_alloc_at _ _ _ _ rfl]; rfl
                              have hrow := row_any (wr.alloc (.cells #[.slice yo yn yc, .slice none 0 0] 30)) w3.heap.size (Nat.le_trans hwv (Kp.new wr (.cells #[.slice yo yn yc, .slice none 0 0] 30)).size) ao4 yo none n4 cap4 yn yc 0 0 _ (movesL true 1 false) [] (hD.own.keep (Kp.new wr (.cells #[.slice yo yn yc, .slice none 0 0] 30))) (wr.heap.size) hg0 hg1 (fun hx => absurd (hD.own.lt _ hx).2 (by simp)) (Kp.mvs (Kp.new wr (.cells #[.slice yo yn yc, .slice none 0 0] 30)) Hy.out.1) (⟨rfl, Nat.zero_le _, fun j u hu => by simp at hu⟩ : Mvs _ none 0 []) (fun j hj => by simp [blkL, blk] at hj) (by omega)
                              have Hrow := Lib.hid hrow; clear hrow hg0 hg1
                              (with_reducible refine Hrow.out.mono ?_)
                              rintro e w9 ⟨ao5, cap5, rfl, hR⟩
                              have hE5 := (hD.kp (Kp.new wr (.cells #[.slice yo yn yc, .slice none 0 0] 30))).trans hR
                              clear Hrow hR
                              go_wp2_with fail
                              go_roundw
                              case rel =>
                                refine ⟨j + 1, n4 + yn + 0, cap5, ao5, by omega, by go_num, rfl, by omega, ?_⟩
                                rw [Hsuc2.out, HT.out]
                                rw [List.append_assoc (LQ ++ _) _ _] at hE5
                                exact hE5
                              case measure => simp [intOf]; omega
                          · have htb : (t == 1) = false := by simpa using ht
                            have HT := Lib.hid (show tokM true false psk t = movesL true t false ++ [] by unfold tokM mixM; rw [htb]; rfl)
                            clear ht
                            obtain ⟨yo, yn, yc, hrun, hy⟩ := hMv.get (t, false) (KK_all t false ht1 ht7)
                            have hrun : (Instr.lookup 57 (.map (some r)) (.agg #[.int .i64 t, .bool false]) false).run Tryd.prog wr = .ok (.slice yo yn yc) wr := hrun
                            have hyl : yn ≤ 2 := by rw [← hy.1.1]; exact movesL_len _ _ _
                            have Hy := Lib.hid hy; clear hy
                            go_wp2_with fail
                            have hg0 : (wr.alloc (.cells #[.slice yo yn yc, .slice none 0 0] 30)).cell? ⟨wr.heap.size, 0, none⟩ = some (.slice yo yn yc) := by rw [World.cell?_alloc_at _ _ _ _ rfl]; rfl
                            have hg1 : (wr.alloc (.cells #[.slice yo yn yc, .slice none 0 0] 30)).cell? ⟨wr.heap.size, 1, none⟩ = some (.slice none 0 0) := by rw [World.cell?_alloc_at _ _ _ _ rfl]; rfl
                            have hrow := row_any (wr.alloc (.cells #[.slice yo yn yc, .slice none 0 0] 30)) w3.heap.size (Nat.le_trans hwv (Kp.new wr (.cells #[.slice yo yn yc, .slice none 0 0] 30)).size) ao4 yo none n4 cap4 yn yc 0 0 _ (movesL true t false) [] (hD.own.keep (Kp.new wr (.cells #[.slice yo yn yc, .slice none 0 0] 30))) (wr.heap.size) hg0 hg1 (fun hx => absurd (hD.own.lt _ hx).2 (by simp)) (Kp.mvs (Kp.new wr (.cells #[.slice yo yn yc, .slice none 0 0] 30)) Hy.out.1) (⟨rfl, Nat.zero_le _, fun j u hu => by simp at hu⟩ : Mvs _ none 0 []) (fun j hj => by simp [blkL, blk] at hj) (by omega)
                            have Hrow := Lib.hid hrow; clear hrow hg0 hg1
                            (with_reducible refine Hrow.out.mono ?_)
                            rintro e w9 ⟨ao5, cap5, rfl, hR⟩
                            have hE5 := (hD.kp (Kp.new wr (.cells #[.slice yo yn yc, .slice none 0 0] 30))).trans hR
                            clear Hrow hR
                            go_wp2_with fail
                            go_roundw
                            case rel =>
                              refine ⟨j + 1, n4 + yn + 0, cap5, ao5, by omega, by go_num, rfl, by omega, ?_⟩
                              rw [Hsuc2.out, HT.out]
                              rw [List.append_assoc (LQ ++ _) _ _] at hE5
                              exact hE5
                            case measure => simp [intOf]; omega
                        · obtain rfl : tn = j := by omega
                          rw [List.take_of_length_le (by rw [Htl.out]; exact Nat.le_refl _)] at hD
                          go_wp2_with (at_builtin; refine wpList_mv1 rfl (.tmp 142) (.tmp 144) rfl rfl hD.own ⟨13, 0, 0⟩ rfl (by simp) (by omega) hwv ?_; intro ao5 cap5 w9 ha)
                          have hE5 := hD.trans ha
                          go_roundw
                          case rel =>
                            refine ⟨k + 1, n4 + 1, cap5, ao5, by omega, by go_num, rfl, by omega, ?_⟩
                            rw [Hsucc.out, show lineM true psk ((1 : Int), ts) = [(⟨6, 0, 0⟩ : Mv)] ++ (ts.flatMap (tokM true false psk) ++ [⟨13, 0, 0⟩]) from rfl, ← List.append_assoc, ← List.append_assoc, ← HLQ.out, ← List.append_assoc]
                            exact hE5
                          case measure => simp [intOf]; omega
                  · obtain rfl : k = ls.length := by rw [Hll.out]; omega
                    obtain rfl : nl = ls.length := Hll.out.symm
                    rw [List.take_of_length_le (Nat.le_refl _), HL8.out] at hB
                    have hwr : w3.heap.size ≤ wr.heap.size := by have := hB.fr.size; have := hk38.size; omega
                    obtain ⟨hkr, _, _⟩ := Hfar.out _ _ _ _ _ hB
                    go_wp2_with (at_builtin; refine wpList_mv1 rfl (.tmp 147) (.tmp 149) rfl rfl hB.own ⟨14, 0, 0⟩ rfl (by simp) (by omega) hwr ?_; intro aoe cape we hae; have hke := Hfar.out _ _ _ _ _ (hB.trans hae))
                    have hpost : UnrollPost w E true b0 b1 ls (.returned (.tuple #[.slice aoe (n2 + 1) cape, .nilIface])) we := ⟨hke.1, by
                      rw [if_pos Hc.out]
                      refine ⟨aoe, n2 + 1, cape, rfl, ?_, ?_⟩
                      · have := hae.own.1
                        rw [show unrollL true b0 b1 ls = befL true psk b0 b1 ls 2 ++ ls.flatMap (lineM true psk) ++ [⟨14, 0, 0⟩] by rw [Hpsk.out]; unfold unrollL befL pskL; simp [List.append_assoc]]
                        exact this.mono (fun j hj => Nat.le_trans hBw (hae.own.lt j (mem_blkL.2 hj)).1)
                      · rw [show unrollL true b0 b1 ls = befL true psk b0 b1 ls 2 ++ ls.flatMap (lineM true psk) ++ [⟨14, 0, 0⟩] by rw [Hpsk.out]; unfold unrollL befL pskL; simp [List.append_assoc]]
                        exact hae.own.2⟩
                    have Hpost := Lib.hid hpost; clear hpost
                    go_ret2
                    exact Hpost.out
  · have hpost : ∀ w', Kp w w' → UnrollPost w E true b0 b1 ls (.returned (.tuple #[.slice none 0 0, .iface 154 (.pointer (some (E (checkL b0 b1 ls))))])) w' := fun w' hk => ⟨hk, by
      rw [if_neg hc]; unfold errV; rw [if_neg hc]⟩
    have Hpost := Lib.hid hpost
    rw [show errV E (checkL b0 b1 ls) = .iface 154 (.pointer (some (E (checkL b0 b1 ls)))) from if_neg hc]
    clear hpost hc
    go_wp2_with fail
    go_ret2
    exact Hpost.out _ hkw
end Go.Proofs.YtbcjeemjpcidhaaDoor
