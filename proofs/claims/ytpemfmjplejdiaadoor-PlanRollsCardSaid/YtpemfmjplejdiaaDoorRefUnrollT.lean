/- What the document's Unroll answers of the initiator's side. Condition: the pattern lies there (Is, Lns). -/
import Derived.Test.YtpemfmjplejdiaaDoorRefUnrollA
namespace Go.Proofs.YtpemfmjplejdiaaDoor
open Go.RowKit

set_option maxRecDepth 100000 in
set_option maxHeartbeats 16000000 in
theorem refUnroll_true (w : World) (nm : ByteArray) (a0 a1 al : Option Addr) (n0 c0 n1 c1 nl cl : Nat) (b0 b1 : List Int) (ls : List Ln) (h0 : Is w a0 n0 b0) (h1 : Is w a1 n1 b1) (hl : Lns w al nl ls) :
    Calls Tryd.prog 13 #[.agg #[.string nm, .slice a0 n0 c0, .slice a1 n1 c1, .slice al nl cl], .bool true] w (UnrollRPost w true b0 b1 ls) := by
  have hnl := hl.2.1
  have Hll := Lib.hid hl.1
  have hk1 := Kp.new w (.cells #[.string nm, .slice a0 n0 c0, .slice a1 n1 c1, .slice al nl cl] 26)
  have hB := Bx.new w nm a0 a1 al n0 c0 n1 c1 nl cl
  obtain ⟨wa, hwa⟩ : ∃ wa, wa = w.alloc (.cells #[.string nm, .slice a0 n0 c0, .slice a1 n1 c1, .slice al nl cl] 26) := ⟨_, rfl⟩
  obtain ⟨pb, hpb⟩ : ∃ pb, pb = w.heap.size := ⟨_, rfl⟩
  rw [← hwa] at hk1 hB
  rw [← hpb] at hB
  have Hck := Lib.hid (refCheck_any wa nm a0 a1 al n0 c0 n1 c1 nl cl b0 b1 ls (hk1.is h0) (hk1.is h1) (hk1.lns hl))
  rw [checkR_eq] at Hck
  have Hk1 := Lib.hid hk1; clear hk1
  have HB := Lib.hid hB
  obtain ⟨y0, y1, y2, y3⟩ := hB
  go_enter Tryd.func13, Tryd.ntmps13
  go_upto_region 1 with fail
  rw [← hwa, ← hpb]
  clear hwa hpb
  go_wp2_with fail
  (with_reducible refine Hck.out.mono ?_)
  rintro e w1 ⟨rfl, hk1⟩
  clear y0 y1 y2 y3
  have hkw := Kp.trans Hk1.out hk1
  by_cases hc : checkL b0 b1 ls = 0
  · have hsh := checkL_ok hc
    rw [show (iv ((checkL b0 b1 ls : Nat) : Int)) = iv 0 by rw [hc]; rfl]
    obtain ⟨hb0, hb1, hl0, hmem⟩ := shapedL_mem hsh
    obtain ⟨lb0, lb1, lls, lts⟩ := shapedL_len hsh
    have hn0 : n0 ≤ 2 := by rw [← h0.1]; exact lb0
    have hn1 : n1 ≤ 2 := by rw [← h1.1]; exact lb1
    have hnl24 : nl ≤ 24 := by rw [← hl.1]; exact lls
    have Hlts := Lib.hid lts
    have Hb0 := Lib.hid (okB_mem hb0)
    have Hb1 := Lib.hid (okB_mem hb1)
    have Hmem := Lib.hid hmem
    have Hl0 := Lib.hid h0.1
    have Hl1 := Lib.hid h1.1
    have Hc := Lib.hid hc
    have g0 := hkw.is h0
    have g1 := hkw.is h1
    have gl := hkw.lns hl
    have hB1 := HB.out.kp hk1
    have hpw : pb < w1.heap.size := hB1.lt
    have Hkw := Lib.hid hkw
    have Hps := Lib.hid (fun w' (k : Kp w1 w') => psk_any w' nm a0 a1 al n0 c0 n1 c1 nl cl ls (k.lns gl))
    obtain ⟨psk, hpsk⟩ : ∃ x, x = pskL ls := ⟨_, rfl⟩
    rw [← hpsk] at Hps
    have Hpsk := Lib.hid hpsk; clear hpsk
    obtain ⟨y0, y1, y2, y3⟩ := hB1
    have HB1 := Lib.hid (show Bx w1 pb nm a0 a1 al n0 c0 n1 c1 nl cl from ⟨y0, y1, y2, y3⟩)
    clear hc hsh hb0 hb1 hl0 hmem lb0 lb1 lls lts hk1 h0 h1 hl HB Hck hkw
    go_wp2_with fail
    (with_reducible refine (refHas_any w1 a0 n0 c0 b0 2 g0).mono ?_)
    rintro e w2 ⟨rfl, rfl⟩
    rename World => w1
    go_wp2_with fail
    go_loopw [9, 10] (fun u i wr => ∃ k : Nat, k ≤ nl ∧ i = .int .i64 (k : Nat) ∧ u = .bool (inL b0 2 || hasL (ls.take k) 0 2) ∧ wr = w1) (fun _ i _ => nl - (intOf i).toNat)
    case atStart => exact ⟨0, by omega, rfl, by simp [hasL], rfl⟩
    case round =>
      obtain ⟨k, hk, rfl, rfl, rfl⟩ := hrel
      by_cases hlt : k < nl
      · have hkl : k < ls.length := by rw [Hll.out]; exact hlt
        obtain ⟨b, off, tp, tn, tc, rfl, hc1, hc2, hI, _⟩ := gl.2.2 k hkl
        have hst := hasL_take ls 0 2 k hkl
        have Hh := Lib.hid (refHas_any wr tp tn tc _ 2 hI)
        have hfm := (Hmem.out k hkl).1
        generalize ls[k]'hkl = l at hst Hh hc1 hfm
        obtain ⟨f, ts⟩ := l
        simp only at hst Hh hc1 hfm
        have Hst := Lib.hid hst
        clear hst hI
        generalize hu : (inL b0 2 || hasL (ls.take k) 0 2) = u
        have Hu := Lib.hid hu; clear hu
        rcases hfm with rfl | rfl
        · go_wp2_with fail
          (with_reducible refine Hh.out.mono ?_)
          rintro e w3 ⟨rfl, rfl⟩
          cases hq : inL ts 2 with
          | true =>
            have HF := Lib.hid (show (inL b0 2 || hasL (ls.take (k + 1)) 0 2) = true by rw [Hst.out, hq]; simp)
            clear hq
            go_wp2_with fail
            go_roundw
            case rel => exact ⟨k + 1, by omega, by go_num, by rw [HF.out], trivial⟩
            case measure => simp [intOf]; omega
          | false =>
            have HF := Lib.hid (show (inL b0 2 || hasL (ls.take (k + 1)) 0 2) = u by rw [Hst.out, hq, ← Hu.out]; simp)
            clear hq
            go_wp2_with fail
            go_roundw
            case rel => exact ⟨k + 1, by omega, by go_num, by rw [HF.out], trivial⟩
            case measure => simp [intOf]; omega
        · have HF := Lib.hid (show (inL b0 2 || hasL (ls.take (k + 1)) 0 2) = u by rw [Hst.out, ← Hu.out]; simp)
          go_wp2_with fail
          go_roundw
          case rel => exact ⟨k + 1, by omega, by go_num, by rw [HF.out], trivial⟩
          case measure => simp [intOf]; omega
      · have hke : ls.take k = ls := List.take_of_length_le (by rw [Hll.out]; omega)
        have hkn : k = nl := by omega
        subst hkn
        have Hh := Lib.hid (show headM true b0 b1 ls = (if (inL b0 2 || hasL (ls.take k) 0 2) then [⟨1, 2, 0⟩] else []) ++ ((if inL b0 1 then [⟨1, 1, 0⟩] else []) ++ [⟨2, 0, 0⟩]) by rw [hke, Bool.or_comm]; rfl)
        rename World => wB
        generalize (inL b0 2 || hasL (ls.take k) 0 2) = p1 at Hh ⊢
        clear hke hlt
        have hA0 : MvA wB wB wB.heap.size none 0 [] none 0 := MvA.refl (MvO.nil _ _)
        go_upto_if 53 with fail
        go_cut [8] (fun v wc => ∃ n cap ao, v = .slice ao n cap ∧ n ≤ 1 ∧ MvA wB wc wB.heap.size none n (if p1 then [⟨1, 2, 0⟩] else []) ao cap)
        case first =>
          cases p1 with
          | false =>
            go_wp2_with fail
            go_meet
            case rel => exact ⟨0, 0, none, rfl, by omega, hA0⟩
          | true =>
            go_wp2_with (at_builtin; refine wpList_mv1 rfl (.tmp 54) (.tmp 56) rfl rfl hA0.own ⟨1, 2, 0⟩ rfl (by simp) (by omega) (Nat.le_refl _) ?_; intro ao2 cap2 w4 ha)
            go_meet
            case rel => exact ⟨1, cap2, ao2, rfl, by omega, hA0.trans ha⟩
        case rest =>
          clear hA0
          obtain ⟨n, cap, ao, rfl, hn, hA⟩ := hcut
          rename World => w4
          have z := Kp.cell hA.keeps y1
          have Hcont := Lib.hid (refHas_any w4 a0 n0 c0 b0 1 (hA.keeps.is g0))
          go_wp2_with fail
          (with_reducible refine Hcont.out.mono ?_)
          rintro e w5 ⟨rfl, rfl⟩
          clear z
          generalize inL b0 1 = p2 at Hh ⊢
          go_upto_if 62 with fail
          go_cut [8] (fun v wc => ∃ n cap ao, v = .slice ao n cap ∧ n ≤ 2 ∧ MvA wB wc wB.heap.size none n ((if p1 then [⟨1, 2, 0⟩] else []) ++ (if p2 then [⟨1, 1, 0⟩] else [])) ao cap)
          case first =>
            cases p2 with
            | false =>
              go_wp2_with fail
              go_meet
              case rel => exact ⟨n, cap, ao, rfl, by omega, by rw [show (if false = true then [(⟨1, 1, 0⟩ : Mv)] else []) = [] from rfl, List.append_nil]; exact hA⟩
            | true =>
              go_wp2_with (at_builtin; refine wpList_mv1 rfl (.tmp 63) (.tmp 65) rfl rfl hA.own ⟨1, 1, 0⟩ rfl (by simp) (by omega) hA.keeps.size ?_; intro ao2 cap2 w5 ha)
              go_meet
              case rel => exact ⟨n + 1, cap2, ao2, rfl, by omega, hA.trans ha⟩
          case rest =>
            clear hA hn
            obtain ⟨n, cap, ao, rfl, hn, hA⟩ := hcut
            rename World => w5
            go_wp2_with (at_builtin; refine wpList_mv1 rfl (.tmp 67) (.tmp 69) rfl rfl hA.own ⟨2, 0, 0⟩ rfl (by simp) (by omega) hA.keeps.size ?_; intro ao2 cap2 w6 ha; have hA2 := hA.trans ha)
            rw [List.append_assoc, ← Hh.out] at hA2
            clear hA ha Hh
            have hn3 : n + 1 ≤ 3 := by omega
            obtain ⟨N, hN⟩ : ∃ N, N = n + 1 := ⟨_, rfl⟩
            rw [← hN] at hA2 hn3 ⊢
            clear hN hn
            have hA3 : MvA wB w6 wB.heap.size none N (befL true psk b0 b1 ls 0) ao2 cap2 := by
              rw [show befL true psk b0 b1 ls 0 = headM true b0 b1 ls from List.append_nil _]; exact hA2
            clear hA2
            go_loopw [8, 11] (fun l i wr => ∃ k n cap ao, k ≤ 2 ∧ i = .int .i64 (k : Nat) ∧ l = .slice ao n cap ∧ n ≤ 3 + 4 * k ∧ MvA wB wr wB.heap.size none n (befL true psk b0 b1 ls k) ao cap) (fun _ i _ => 2 - (intOf i).toNat)
            case atStart => exact ⟨0, N, cap2, ao2, by omega, rfl, rfl, by omega, hA3⟩
            case round =>
              clear hA3
              obtain ⟨kk, n, cap, ao, hkk, rfl, rfl, hn, hA⟩ := hrel
              rcases (show kk = 0 ∨ kk = 1 ∨ kk = 2 by omega) with rfl | rfl | rfl
              · rw [show ((0 : Nat) : Int) = 0 from rfl]
                have hA0 : MvA wB wr wB.heap.size none n (befL true psk b0 b1 ls 0 ++ (b0.take 0).flatMap (befM false psk)) ao cap := by rw [List.take_zero, List.flatMap_nil, List.append_nil]; exact hA
                clear hA
                go_wp2_with fail
                go_loopw [8, 12] (fun l i wr => ∃ j n cap ao, j ≤ n0 ∧ i = .int .i64 (j : Nat) ∧ l = .slice ao n cap ∧ n ≤ 3 + 2 * j ∧ MvA wB wr wB.heap.size none n (befL true psk b0 b1 ls 0 ++ (b0.take j).flatMap (befM false psk)) ao cap) (fun _ i _ => n0 - (intOf i).toNat)
                case atStart => exact ⟨0, n, cap, ao, by omega, rfl, rfl, by omega, hA0⟩
                case round =>
                  clear hA0 hn
                  obtain ⟨j, n, cap, ao, hj, rfl, rfl, hn, hA⟩ := hrel
                  rename World => w7
                  obtain ⟨y0, y1, y2, y3⟩ := HB1.out.kp hA.keeps
                  by_cases hjn : j < n0
                  · obtain ⟨tb, toff, rfl, _, hcc⟩ := (hA.keeps.is g0).at j hjn
                    have hck := hcc j hjn
                    have hjl : j < b0.length := by rw [Hl0.out]; exact hjn
                    have hsucc := flatMap_take (befM false psk) b0 j hjl
                    have hval := Hb0.out j hjl
                    clear hcc
                    generalize b0[j]'hjl = t at hck hsucc hval
                    have Hsucc := Lib.hid hsucc; clear hsucc
                    rcases hval with rfl | rfl
                    · have Hkey := Lib.hid (show ∀ w', Calls Tryd.prog 29 #[iv 1, .bool true] w' fun e w'' => e = .returned (iv 1) ∧ w'' = w' from fun w' => keyR_any w' 1 true (by omega))
                      go_wp2_with fail
                      (with_reducible refine (Hkey.out _).mono ?_)
                      rintro e w8 ⟨rfl, rfl⟩
                      rename World => w8
                      go_wp2_with (at_builtin; refine wpList_mv1 rfl (.tmp 96) (.tmp 99) rfl rfl hA.own ⟨3, 1, 0⟩ rfl (by simp) (by omega) hA.keeps.size ?_; intro aoa capa wx haa; have hAa := hA.trans haa; obtain ⟨y0, y1, y2, y3⟩ := HB1.out.kp hAa.keeps)
                      (with_reducible refine (Hps.out _ hAa.keeps).mono ?_)
                      rintro e wy ⟨rfl, hky⟩
                      have hAy := hAa.kp hky
                      cases psk with
                      | true =>
                        go_wp2_with (at_builtin; refine wpList_mv1 rfl (.tmp 107) (.tmp 110) rfl rfl hAy.own ⟨4, 1, 0⟩ rfl (by simp) (by omega) hAy.keeps.size ?_; intro aob capb wz hab; have hAb := hAy.trans hab)
                        go_roundw
                        case rel =>
                          refine ⟨j + 1, n + 1 + 1, capb, aob, by omega, by go_num, rfl, by omega, ?_⟩
                          rw [Hsucc.out, ← List.append_assoc]
                          rw [List.append_assoc] at hAb
                          exact hAb
                        case measure => simp [intOf]; omega
                      | false =>
                        go_wp2_with fail
                        go_roundw
                        case rel =>
                          refine ⟨j + 1, n + 1, capa, aoa, by omega, by go_num, rfl, by omega, ?_⟩
                          rw [Hsucc.out, ← List.append_assoc]
                          exact hAy
                        case measure => simp [intOf]; omega
                    · have Hkey := Lib.hid (show ∀ w', Calls Tryd.prog 29 #[iv 2, .bool true] w' fun e w'' => e = .returned (iv 2) ∧ w'' = w' from fun w' => keyR_any w' 2 true (by omega))
                      go_wp2_with fail
                      (with_reducible refine (Hkey.out _).mono ?_)
                      rintro e w8 ⟨rfl, rfl⟩
                      rename World => w8
                      go_wp2_with (at_builtin; refine wpList_mv1 rfl (.tmp 96) (.tmp 99) rfl rfl hA.own ⟨3, 2, 0⟩ rfl (by simp) (by omega) hA.keeps.size ?_; intro aoa capa wx haa; have hAa := hA.trans haa)
                      go_roundw
                      case rel =>
                        refine ⟨j + 1, n + 1, capa, aoa, by omega, by go_num, rfl, by omega, ?_⟩
                        rw [Hsucc.out, ← List.append_assoc]
                        exact hAa
                      case measure => simp [intOf]; omega
                  · have hjn2 : n0 = j := by omega
                    subst hjn2
                    rw [List.take_of_length_le (by rw [Hl0.out]; exact Nat.le_refl _)] at hA
                    go_wp2_with fail
                    go_roundw
                    case rel => exact ⟨1, n, cap, ao, by omega, rfl, rfl, by omega, (befL_1 true psk b0 b1 ls) ▸ hA⟩
                    case measure => simp [intOf]
              · rw [show ((1 : Nat) : Int) = 1 from rfl]
                have hA0 : MvA wB wr wB.heap.size none n (befL true psk b0 b1 ls 1 ++ (b1.take 0).flatMap (befM true psk)) ao cap := by rw [List.take_zero, List.flatMap_nil, List.append_nil]; exact hA
                clear hA
                go_wp2_with fail
                go_loopw [8, 12] (fun l i wr => ∃ j n cap ao, j ≤ n1 ∧ i = .int .i64 (j : Nat) ∧ l = .slice ao n cap ∧ n ≤ 7 + 2 * j ∧ MvA wB wr wB.heap.size none n (befL true psk b0 b1 ls 1 ++ (b1.take j).flatMap (befM true psk)) ao cap) (fun _ i _ => n1 - (intOf i).toNat)
                case atStart => exact ⟨0, n, cap, ao, by omega, rfl, rfl, by omega, hA0⟩
                case round =>
                  clear hA0 hn
                  obtain ⟨j, n, cap, ao, hj, rfl, rfl, hn, hA⟩ := hrel
                  rename World => w7
                  obtain ⟨y0, y1, y2, y3⟩ := HB1.out.kp hA.keeps
                  by_cases hjn : j < n1
                  · obtain ⟨tb, toff, rfl, _, hcc⟩ := (hA.keeps.is g1).at j hjn
                    have hck := hcc j hjn
                    have hjl : j < b1.length := by rw [Hl1.out]; exact hjn
                    have hsucc := flatMap_take (befM true psk) b1 j hjl
                    have hval := Hb1.out j hjl
                    clear hcc
                    generalize b1[j]'hjl = t at hck hsucc hval
                    have Hsucc := Lib.hid hsucc; clear hsucc
                    rcases hval with rfl | rfl
                    · have Hkey := Lib.hid (show ∀ w', Calls Tryd.prog 29 #[iv 1, .bool false] w' fun e w'' => e = .returned (iv 3) ∧ w'' = w' from fun w' => keyR_any w' 1 false (by omega))
                      go_wp2_with fail
                      (with_reducible refine (Hkey.out _).mono ?_)
                      rintro e w8 ⟨rfl, rfl⟩
                      rename World => w8
                      go_wp2_with (at_builtin; refine wpList_mv1 rfl (.tmp 96) (.tmp 99) rfl rfl hA.own ⟨3, 3, 0⟩ rfl (by simp) (by omega) hA.keeps.size ?_; intro aoa capa wx haa; have hAa := hA.trans haa; obtain ⟨y0, y1, y2, y3⟩ := HB1.out.kp hAa.keeps)
                      (with_reducible refine (Hps.out _ hAa.keeps).mono ?_)
                      rintro e wy ⟨rfl, hky⟩
                      have hAy := hAa.kp hky
                      cases psk with
                      | true =>
                        go_wp2_with (at_builtin; refine wpList_mv1 rfl (.tmp 107) (.tmp 110) rfl rfl hAy.own ⟨4, 3, 0⟩ rfl (by simp) (by omega) hAy.keeps.size ?_; intro aob capb wz hab; have hAb := hAy.trans hab)
                        go_roundw
                        case rel =>
                          refine ⟨j + 1, n + 1 + 1, capb, aob, by omega, by go_num, rfl, by omega, ?_⟩
                          rw [Hsucc.out, ← List.append_assoc]
                          rw [List.append_assoc] at hAb
                          exact hAb
                        case measure => simp [intOf]; omega
                      | false =>
                        go_wp2_with fail
                        go_roundw
                        case rel =>
                          refine ⟨j + 1, n + 1, capa, aoa, by omega, by go_num, rfl, by omega, ?_⟩
                          rw [Hsucc.out, ← List.append_assoc]
                          exact hAy
                        case measure => simp [intOf]; omega
                    · have Hkey := Lib.hid (show ∀ w', Calls Tryd.prog 29 #[iv 2, .bool false] w' fun e w'' => e = .returned (iv 4) ∧ w'' = w' from fun w' => keyR_any w' 2 false (by omega))
                      go_wp2_with fail
                      (with_reducible refine (Hkey.out _).mono ?_)
                      rintro e w8 ⟨rfl, rfl⟩
                      rename World => w8
                      go_wp2_with (at_builtin; refine wpList_mv1 rfl (.tmp 96) (.tmp 99) rfl rfl hA.own ⟨3, 4, 0⟩ rfl (by simp) (by omega) hA.keeps.size ?_; intro aoa capa wx haa; have hAa := hA.trans haa)
                      go_roundw
                      case rel =>
                        refine ⟨j + 1, n + 1, capa, aoa, by omega, by go_num, rfl, by omega, ?_⟩
                        rw [Hsucc.out, ← List.append_assoc]
                        exact hAa
                      case measure => simp [intOf]; omega
                  · have hjn2 : n1 = j := by omega
                    subst hjn2
                    rw [List.take_of_length_le (by rw [Hl1.out]; exact Nat.le_refl _)] at hA
                    go_wp2_with fail
                    go_roundw
                    case rel => exact ⟨2, n, cap, ao, by omega, rfl, rfl, by omega, (befL_2 true psk b0 b1 ls) ▸ hA⟩
                    case measure => simp [intOf]
              · rw [show ((2 : Nat) : Int) = 2 from rfl]
                obtain ⟨L8, hL8⟩ : ∃ L8, L8 = befL true psk b0 b1 ls 2 := ⟨_, rfl⟩
                rw [← hL8] at hA
                have HL8 := Lib.hid hL8; clear hL8
                have hB0 : MvA wB wr wB.heap.size none n (L8 ++ (ls.take 0).flatMap (lineM true psk)) ao cap := by rw [List.take_zero, List.flatMap_nil, List.append_nil]; exact hA
                clear hA
                go_wp2_with fail
                go_loopw [8, 15] (fun l i wr => ∃ k2 n2 cap2 ao2, k2 ≤ k ∧ i = .int .i64 (k2 : Nat) ∧ l = .slice ao2 n2 cap2 ∧ n2 ≤ 20 + 100 * k2 ∧ MvA wB wr wB.heap.size none n2 (L8 ++ (ls.take k2).flatMap (lineM true psk)) ao2 cap2) (fun _ i _ => k - (intOf i).toNat)
                case atStart => exact ⟨0, n, cap, ao, by omega, rfl, rfl, by omega, hB0⟩
                case round =>
                  clear hB0
                  obtain ⟨k2, n2, cap2, ao2, hk2, rfl, rfl, hn2, hA⟩ := hrel
                  rename World => w7
                  obtain ⟨y0, y1, y2, y3⟩ := HB1.out.kp hA.keeps
                  by_cases hlt : k2 < k
                  · have hkl : k2 < ls.length := by rw [Hll.out]; exact hlt
                    obtain ⟨b, off, tp, tn, tc, rfl, hc1, hc2, hI, htn⟩ := gl.2.2 k2 hkl
                    have q1 := Kp.cell hA.keeps hc1
                    obtain ⟨hfm, htpos, htm⟩ := Hmem.out k2 hkl
                    have htn24 := Hlts.out k2 hkl
                    have hsucc := flatMap_take (lineM true psk) ls k2 hkl
                    have hltb := World.block_lt_of_cell? wB _ hc2
                    generalize ls[k2]'hkl = l at hc1 q1 hI hfm htm htn24 hsucc
                    obtain ⟨f, ts⟩ := l
                    simp only at hc1 q1 hI hfm htm htn24 hsucc
                    have Htl := Lib.hid (show ts.length = tn from hI.1)
                    have htn24 : tn ≤ 24 := by rw [← Htl.out]; exact htn24
                    have Htm := Lib.hid htm
                    have Hsucc := Lib.hid hsucc
                    have HI := Lib.hid hI
                    clear htm hsucc hI htpos hc1
                    have hsz := hA.keeps.size
                    rcases hfm with rfl | rfl
                    · go_wp2_with (at_builtin; refine wpList_mv1 rfl (.tmp 128) (.tmp 130) rfl rfl hA.own ⟨5, 0, 0⟩ rfl (by simp) (by omega) hsz ?_; intro ao3 cap3 wq ha)
                      have hC := hA.trans ha
                      clear ha
                      obtain ⟨n3, hn3⟩ : ∃ x, x = n2 + 1 := ⟨_, rfl⟩
                      rw [← hn3] at hC ⊢
                      have hn3b : n3 ≤ 21 + 100 * k2 := by omega
                      clear hn3
                      obtain ⟨LQ, hLQ⟩ : ∃ x, x = L8 ++ (ls.take k2).flatMap (lineM true psk) ++ [(⟨5, 0, 0⟩ : Mv)] := ⟨_, rfl⟩
                      rw [← hLQ] at hC
                      have HLQ := Lib.hid hLQ; clear hLQ
                      have hC0 : MvA wB wq wB.heap.size none n3 (LQ ++ (ts.take 0).flatMap (tokM true true psk)) ao3 cap3 := by rw [List.take_zero, List.flatMap_nil, List.append_nil]; exact hC
                      clear hC
                      go_loopw [8, 17] (fun l i wv => ∃ j n4 cap4 ao4, j ≤ tn ∧ i = .int .i64 (j : Nat) ∧ l = .slice ao4 n4 cap4 ∧ n4 ≤ 21 + 100 * k2 + 3 * j ∧ MvA wB wv wB.heap.size none n4 (LQ ++ (ts.take j).flatMap (tokM true true psk)) ao4 cap4) (fun _ i _ => tn - (intOf i).toNat)
                      case atStart => exact ⟨0, n3, cap3, ao3, by omega, rfl, rfl, by omega, hC0⟩
                      case round =>
                        clear hC0
                        obtain ⟨j, n4, cap4, ao4, hj, rfl, rfl, hn4, hD⟩ := hrel
                        rename World => wv
                        obtain ⟨y0, y1, y2, y3⟩ := HB1.out.kp hD.keeps
                        have q2 := Kp.cell hD.keeps hc2
                        have hwv := hD.keeps.size
                        by_cases hjt : j < tn
                        · have hjl : j < ts.length := by rw [Htl.out]; exact hjt
                          obtain ⟨tb, toff, rfl, _, hcc⟩ := HI.out.at j hjt
                          have tk0 := hcc j hjt
                          obtain ⟨ht1, ht7⟩ := Htm.out j hjl
                          have hsuc2 : LQ ++ (ts.take (j + 1)).flatMap (tokM true true psk) = LQ ++ (ts.take j).flatMap (tokM true true psk) ++ tokM true true psk ts[j] := by rw [flatMap_take _ ts j hjl, List.append_assoc]
                          clear hcc
                          generalize ts[j]'hjl = t at tk0 ht1 ht7 hsuc2
                          have Hsuc2 := Lib.hid hsuc2; clear hsuc2
                          have hltt := World.block_lt_of_cell? wB _ tk0
                          have Hmv := Lib.hid (show ∀ w', Calls Tryd.prog 31 #[iv t, iv 0, .bool true, .bool psk] w' (MovRPost w' (tokM true true psk t)) from fun w' => movesR_any w' true true psk t ht1 ht7)
                          have hH : Held2 pb nm a0 a1 (some ⟨b, off, none⟩) n0 c0 n1 c1 k cl b (off + k2 * 2 + 1) (some ⟨tb, toff, none⟩) tn tc tb (toff + j) t wv := ⟨⟨y0, y1, y2, y3⟩, q2, hD.keeps.cell tk0⟩
                          go_upto_region 40 with fail
                          clear y0 y1 y2 y3 q2 tk0
                          refine anyH_start (Held2 pb nm a0 a1 (some ⟨b, off, none⟩) n0 c0 n1 c1 k cl b (off + k2 * 2 + 1) (some ⟨tb, toff, none⟩) tn tc tb (toff + j) t) (by kernel_rfl) ?_
                          generalize hwq : wv.drew = wd
                          have hkd : Kp wv wd := hwq ▸ (⟨rfl, rfl, rfl, Nat.le_refl _, fun _ _ => rfl⟩ : Kp wv wv.drew)
                          replace hH := hH.kp hkd
                          replace hD := hD.kp hkd
                          clear hwq hkd
                          refine anyH_take [0, 1, 3, 7, 10, 11] (by kernel_rfl) hH ?_
                          simp only [opsAt, List.getElem?_toArray, List.getElem?_cons_zero, List.getElem?_cons_succ]
                          repeat (go_big_quiet_step (fail))
                          refine wpQuiet_nil ?_
                          refine anyH_load 2 149 (.slice (some ⟨b, off, none⟩) k cl) rfl rfl (by kernel_rfl) hH (fun w h => exec_load24 h.1.2.2.2 rfl rfl) ?_
                          simp only [Act.put, List.setIfInBounds_toArray, List.set_cons_zero, List.set_cons_succ]
                          refine anyH_take [4, 5] (by kernel_rfl) hH ?_
                          simp only [opsAt, List.getElem?_toArray, List.getElem?_cons_zero, List.getElem?_cons_succ]
                          repeat (go_big_quiet_step (fail))
                          refine wpQuiet_nil ?_
                          refine anyH_load 6 153 (.slice (some ⟨tb, toff, none⟩) tn tc) rfl rfl (by kernel_rfl) hH (fun w h => exec_load22 h.2.1 rfl rfl) ?_
                          simp only [Act.put, List.setIfInBounds_toArray, List.set_cons_zero, List.set_cons_succ]
                          refine anyH_take [8] (by kernel_rfl) hH ?_
                          simp only [opsAt, List.getElem?_toArray, List.getElem?_cons_zero, List.getElem?_cons_succ]
                          repeat (go_big_quiet_step (fail))
                          refine wpQuiet_nil ?_
                          refine anyH_load 9 156 (iv t) rfl rfl (by kernel_rfl) hH (fun w h => exec_load3 h.2.2 rfl rfl) ?_
                          simp only [Act.put, List.setIfInBounds_toArray, List.set_cons_zero, List.set_cons_succ]
                          refine anyH_load 12 159 (.agg #[.string nm, .slice a0 n0 c0, .slice a1 n1 c1, .slice (some ⟨b, off, none⟩) k cl]) rfl rfl (by kernel_rfl) hH (fun w h => exec_load26 h.1 rfl rfl) ?_
                          simp only [Act.put, List.setIfInBounds_toArray, List.set_cons_zero, List.set_cons_succ]
                          refine anyH_one 13 (by kernel_rfl) ?_
                          simp only [opsAt, List.getElem?_toArray, List.getElem?_cons_zero, List.getElem?_cons_succ]
                          go_wp2_with (go_at_call 30; go_loud (refine (Hps.out _ hD.keeps).mono ?_); rintro e we ⟨rfl, hke⟩)
                          refine ⟨hH.kp hke, ?_⟩
                          replace hH := hH.kp hke
                          replace hD := hD.kp hke
                          clear hke
                          refine anyH_one 14 (by kernel_rfl) ?_
                          simp only [opsAt, List.getElem?_toArray, List.getElem?_cons_zero, List.getElem?_cons_succ]
                          go_wp2_with (go_at_call 31; go_loud (refine (Hmv.out _).mono ?_); rintro e wf ⟨hkf, yo, yn, yc, rfl, hY, hyn⟩)
                          refine ⟨hH.kp hkf, ?_⟩
                          replace hH := hH.kp hkf
                          replace hD := hD.kp hkf
                          clear hkf
                          refine anyH_one 15 (by kernel_rfl) ?_
                          simp only [opsAt, List.getElem?_toArray, List.getElem?_cons_zero, List.getElem?_cons_succ]
                          go_wp2_with (at_builtin; go_loud (refine wpList_mvs rfl (.tmp 147) (.tmp 161) rfl rfl hD.own rfl (tokM true true psk t) hY.mvs (n4 + yn) rfl (by omega) hD.keeps.size ?_); intro ao5 cap5 wg ha)
                          have hoff : ∀ i ∈ blkL ao4, wB.heap.size ≤ i := fun i hi => (hD.own.lt i hi).1
                          have hHg := hH.fr ha.fr (fun h => by have := hoff _ h; omega) (fun h => by have := hoff _ h; omega) (fun h => by have := hoff _ h; omega)
                          refine ⟨hHg, ?_⟩
                          have hE5 := hD.trans ha
                          clear ha hoff hH
                          refine anyH_take [16] (by kernel_rfl) hHg ?_
                          simp only [opsAt, List.getElem?_toArray, List.getElem?_cons_zero, List.getElem?_cons_succ]
                          repeat (go_big_quiet_step (fail))
                          refine wpQuiet_nil ?_
                          refine anyH_end (by kernel_rfl) ?_
                          clear hHg hD hY
                          go_wp2_with fail
                          go_roundw
                          case rel =>
                            refine ⟨j + 1, n4 + yn, cap5, ao5, by omega, by go_num, rfl, by omega, ?_⟩
                            rw [Hsuc2.out]
                            exact hE5
                          case measure => simp [intOf]; omega
                        · have hjt2 : tn = j := by omega
                          subst hjt2
                          rw [List.take_of_length_le (by rw [Htl.out]; exact Nat.le_refl _)] at hD
                          go_wp2_with (at_builtin; refine wpList_mv1 rfl (.tmp 163) (.tmp 165) rfl rfl hD.own ⟨13, 0, 0⟩ rfl (by simp) (by omega) hwv ?_; intro ao5 cap5 w9 ha)
                          have hE5 := hD.trans ha
                          go_roundw
                          case rel =>
                            refine ⟨k2 + 1, n4 + 1, cap5, ao5, by omega, by go_num, rfl, by omega, ?_⟩
                            rw [Hsucc.out, show lineM true psk ((0 : Int), ts) = [(⟨5, 0, 0⟩ : Mv)] ++ (ts.flatMap (tokM true true psk) ++ [⟨13, 0, 0⟩]) from rfl, ← List.append_assoc, ← List.append_assoc, ← HLQ.out, ← List.append_assoc]
                            exact hE5
                          case measure => simp [intOf]; omega
                    · go_wp2_with (at_builtin; refine wpList_mv1 rfl (.tmp 132) (.tmp 134) rfl rfl hA.own ⟨6, 0, 0⟩ rfl (by simp) (by omega) hsz ?_; intro ao3 cap3 wq ha)
                      have hC := hA.trans ha
                      clear ha
                      obtain ⟨n3, hn3⟩ : ∃ x, x = n2 + 1 := ⟨_, rfl⟩
                      rw [← hn3] at hC ⊢
                      have hn3b : n3 ≤ 21 + 100 * k2 := by omega
                      clear hn3
                      obtain ⟨LQ, hLQ⟩ : ∃ x, x = L8 ++ (ls.take k2).flatMap (lineM true psk) ++ [(⟨6, 0, 0⟩ : Mv)] := ⟨_, rfl⟩
                      rw [← hLQ] at hC
                      have HLQ := Lib.hid hLQ; clear hLQ
                      have hC0 : MvA wB wq wB.heap.size none n3 (LQ ++ (ts.take 0).flatMap (tokM true false psk)) ao3 cap3 := by rw [List.take_zero, List.flatMap_nil, List.append_nil]; exact hC
                      clear hC
                      go_loopw [8, 17] (fun l i wv => ∃ j n4 cap4 ao4, j ≤ tn ∧ i = .int .i64 (j : Nat) ∧ l = .slice ao4 n4 cap4 ∧ n4 ≤ 21 + 100 * k2 + 3 * j ∧ MvA wB wv wB.heap.size none n4 (LQ ++ (ts.take j).flatMap (tokM true false psk)) ao4 cap4) (fun _ i _ => tn - (intOf i).toNat)
                      case atStart => exact ⟨0, n3, cap3, ao3, by omega, rfl, rfl, by omega, hC0⟩
                      case round =>
                        clear hC0
                        obtain ⟨j, n4, cap4, ao4, hj, rfl, rfl, hn4, hD⟩ := hrel
                        rename World => wv
                        obtain ⟨y0, y1, y2, y3⟩ := HB1.out.kp hD.keeps
                        have q2 := Kp.cell hD.keeps hc2
                        have hwv := hD.keeps.size
                        by_cases hjt : j < tn
                        · have hjl : j < ts.length := by rw [Htl.out]; exact hjt
                          obtain ⟨tb, toff, rfl, _, hcc⟩ := HI.out.at j hjt
                          have tk0 := hcc j hjt
                          obtain ⟨ht1, ht7⟩ := Htm.out j hjl
                          have hsuc2 : LQ ++ (ts.take (j + 1)).flatMap (tokM true false psk) = LQ ++ (ts.take j).flatMap (tokM true false psk) ++ tokM true false psk ts[j] := by rw [flatMap_take _ ts j hjl, List.append_assoc]
                          clear hcc
                          generalize ts[j]'hjl = t at tk0 ht1 ht7 hsuc2
                          have Hsuc2 := Lib.hid hsuc2; clear hsuc2
                          have hltt := World.block_lt_of_cell? wB _ tk0
                          have Hmv := Lib.hid (show ∀ w', Calls Tryd.prog 31 #[iv t, iv 0, .bool false, .bool psk] w' (MovRPost w' (tokM true false psk t)) from fun w' => movesR_any w' true false psk t ht1 ht7)
                          have hH : Held2 pb nm a0 a1 (some ⟨b, off, none⟩) n0 c0 n1 c1 k cl b (off + k2 * 2 + 1) (some ⟨tb, toff, none⟩) tn tc tb (toff + j) t wv := ⟨⟨y0, y1, y2, y3⟩, q2, hD.keeps.cell tk0⟩
                          go_upto_region 40 with fail
                          clear y0 y1 y2 y3 q2 tk0
                          refine anyH_start (Held2 pb nm a0 a1 (some ⟨b, off, none⟩) n0 c0 n1 c1 k cl b (off + k2 * 2 + 1) (some ⟨tb, toff, none⟩) tn tc tb (toff + j) t) (by kernel_rfl) ?_
                          generalize hwq : wv.drew = wd
                          have hkd : Kp wv wd := hwq ▸ (⟨rfl, rfl, rfl, Nat.le_refl _, fun _ _ => rfl⟩ : Kp wv wv.drew)
                          replace hH := hH.kp hkd
                          replace hD := hD.kp hkd
                          clear hwq hkd
                          refine anyH_take [0, 1, 3, 7, 10, 11] (by kernel_rfl) hH ?_
                          simp only [opsAt, List.getElem?_toArray, List.getElem?_cons_zero, List.getElem?_cons_succ]
                          repeat (go_big_quiet_step (fail))
                          refine wpQuiet_nil ?_
                          refine anyH_load 2 149 (.slice (some ⟨b, off, none⟩) k cl) rfl rfl (by kernel_rfl) hH (fun w h => exec_load24 h.1.2.2.2 rfl rfl) ?_
                          simp only [Act.put, List.setIfInBounds_toArray, List.set_cons_zero, List.set_cons_succ]
                          refine anyH_take [4, 5] (by kernel_rfl) hH ?_
                          simp only [opsAt, List.getElem?_toArray, List.getElem?_cons_zero, List.getElem?_cons_succ]
                          repeat (go_big_quiet_step (fail))
                          refine wpQuiet_nil ?_
                          refine anyH_load 6 153 (.slice (some ⟨tb, toff, none⟩) tn tc) rfl rfl (by kernel_rfl) hH (fun w h => exec_load22 h.2.1 rfl rfl) ?_
                          simp only [Act.put, List.setIfInBounds_toArray, List.set_cons_zero, List.set_cons_succ]
                          refine anyH_take [8] (by kernel_rfl) hH ?_
                          simp only [opsAt, List.getElem?_toArray, List.getElem?_cons_zero, List.getElem?_cons_succ]
                          repeat (go_big_quiet_step (fail))
                          refine wpQuiet_nil ?_
                          refine anyH_load 9 156 (iv t) rfl rfl (by kernel_rfl) hH (fun w h => exec_load3 h.2.2 rfl rfl) ?_
                          simp only [Act.put, List.setIfInBounds_toArray, List.set_cons_zero, List.set_cons_succ]
                          refine anyH_load 12 159 (.agg #[.string nm, .slice a0 n0 c0, .slice a1 n1 c1, .slice (some ⟨b, off, none⟩) k cl]) rfl rfl (by kernel_rfl) hH (fun w h => exec_load26 h.1 rfl rfl) ?_
                          simp only [Act.put, List.setIfInBounds_toArray, List.set_cons_zero, List.set_cons_succ]
                          refine anyH_one 13 (by kernel_rfl) ?_
                          simp only [opsAt, List.getElem?_toArray, List.getElem?_cons_zero, List.getElem?_cons_succ]
                          go_wp2_with (go_at_call 30; go_loud (refine (Hps.out _ hD.keeps).mono ?_); rintro e we ⟨rfl, hke⟩)
                          refine ⟨hH.kp hke, ?_⟩
                          replace hH := hH.kp hke
                          replace hD := hD.kp hke
                          clear hke
                          refine anyH_one 14 (by kernel_rfl) ?_
                          simp only [opsAt, List.getElem?_toArray, List.getElem?_cons_zero, List.getElem?_cons_succ]
                          go_wp2_with (go_at_call 31; go_loud (refine (Hmv.out _).mono ?_); rintro e wf ⟨hkf, yo, yn, yc, rfl, hY, hyn⟩)
                          refine ⟨hH.kp hkf, ?_⟩
                          replace hH := hH.kp hkf
                          replace hD := hD.kp hkf
                          clear hkf
                          refine anyH_one 15 (by kernel_rfl) ?_
                          simp only [opsAt, List.getElem?_toArray, List.getElem?_cons_zero, List.getElem?_cons_succ]
                          go_wp2_with (at_builtin; go_loud (refine wpList_mvs rfl (.tmp 147) (.tmp 161) rfl rfl hD.own rfl (tokM true false psk t) hY.mvs (n4 + yn) rfl (by omega) hD.keeps.size ?_); intro ao5 cap5 wg ha)
                          have hoff : ∀ i ∈ blkL ao4, wB.heap.size ≤ i := fun i hi => (hD.own.lt i hi).1
                          have hHg := hH.fr ha.fr (fun h => by have := hoff _ h; omega) (fun h => by have := hoff _ h; omega) (fun h => by have := hoff _ h; omega)
                          refine ⟨hHg, ?_⟩
                          have hE5 := hD.trans ha
                          clear ha hoff hH
                          refine anyH_take [16] (by kernel_rfl) hHg ?_
                          simp only [opsAt, List.getElem?_toArray, List.getElem?_cons_zero, List.getElem?_cons_succ]
                          repeat (go_big_quiet_step (fail))
                          refine wpQuiet_nil ?_
                          refine anyH_end (by kernel_rfl) ?_
                          clear hHg hD hY
                          go_wp2_with fail
                          go_roundw
                          case rel =>
                            refine ⟨j + 1, n4 + yn, cap5, ao5, by omega, by go_num, rfl, by omega, ?_⟩
                            rw [Hsuc2.out]
                            exact hE5
                          case measure => simp [intOf]; omega
                        · have hjt2 : tn = j := by omega
                          subst hjt2
                          rw [List.take_of_length_le (by rw [Htl.out]; exact Nat.le_refl _)] at hD
                          go_wp2_with (at_builtin; refine wpList_mv1 rfl (.tmp 163) (.tmp 165) rfl rfl hD.own ⟨13, 0, 0⟩ rfl (by simp) (by omega) hwv ?_; intro ao5 cap5 w9 ha)
                          have hE5 := hD.trans ha
                          go_roundw
                          case rel =>
                            refine ⟨k2 + 1, n4 + 1, cap5, ao5, by omega, by go_num, rfl, by omega, ?_⟩
                            rw [Hsucc.out, show lineM true psk ((1 : Int), ts) = [(⟨6, 0, 0⟩ : Mv)] ++ (ts.flatMap (tokM true false psk) ++ [⟨13, 0, 0⟩]) from rfl, ← List.append_assoc, ← List.append_assoc, ← HLQ.out, ← List.append_assoc]
                            exact hE5
                          case measure => simp [intOf]; omega
                  · have hk3 : k2 = k := by omega
                    subst hk3
                    rw [List.take_of_length_le (by rw [Hll.out]; exact Nat.le_refl _), HL8.out] at hA
                    go_wp2_with (at_builtin; refine wpList_mv1 rfl (.tmp 167) (.tmp 169) rfl rfl hA.own ⟨14, 0, 0⟩ rfl (by simp) (by omega) hA.keeps.size ?_; intro aoe cape we hae; have hke := (hA.trans hae).keeps)
                    have hpost : UnrollRPost w true b0 b1 ls (.returned (.tuple #[.slice aoe (n2 + 1) cape, iv 0])) we := ⟨Kp.trans Hkw.out hke, by
                      rw [if_pos Hc.out]
                      refine ⟨aoe, n2 + 1, cape, rfl, ?_, ?_⟩
                      · have := hae.own.1
                        rw [show unrollL true b0 b1 ls = befL true psk b0 b1 ls 2 ++ ls.flatMap (lineM true psk) ++ [⟨14, 0, 0⟩] by rw [Hpsk.out]; unfold unrollL befL; simp [List.append_assoc]]
                        exact this.mono (fun j hj => Nat.le_trans Hkw.out.size (hae.own.lt j (mem_blkL.2 hj)).1)
                      · rw [show unrollL true b0 b1 ls = befL true psk b0 b1 ls 2 ++ ls.flatMap (lineM true psk) ++ [⟨14, 0, 0⟩] by rw [Hpsk.out]; unfold unrollL befL; simp [List.append_assoc]]
                        exact hae.own.2⟩
                    have Hpost := Lib.hid hpost; clear hpost
                    go_ret2
                    exact Hpost.out
  · have hpost : ∀ w', Kp w w' → UnrollRPost w true b0 b1 ls (.returned (.tuple #[.slice none 0 0, iv (checkL b0 b1 ls : Nat)])) w' := fun w' hk => ⟨hk, by rw [if_neg hc]⟩
    have Hpost := Lib.hid hpost
    have hb : ((checkL b0 b1 ls : Int) != 0) = true := by simp; omega
    have hb2 : ¬ ((checkL b0 b1 ls : Int) = 0) := by omega
    clear hpost hc
    go_wp2_with fail
    go_ret2
    exact Hpost.out _ hkw
end Go.Proofs.YtpemfmjplejdiaaDoor
