/- FrameOwn, walked. Conditions: the lists are such (Lss, Bs); ErrLong is laid (HasErr). -/
import Derived.Test.YtkpdbdlkihgofaaDoorTale
namespace Go.Proofs.YtkpdbdlkihgofaaDoor
open Go.RowKit

theorem el53 : El Tryd.prog 53 22 (.slice none 0 0) 1 24 := ⟨Tryd.underlying53, by kernel_rfl, rfl, by decide, by decide⟩

set_option maxRecDepth 100000 in
set_option maxHeartbeats 8000000 in
theorem frameOwn_walk (w : World) (a : Addr) (hH : HasErr w a) (mo zo : Option Addr) (n c zn zc : Nat) (ms : List (List UInt8)) (l : List UInt8) (hs : Lss w mo n ms) (hz : Bs w zo zn l) (hzc : zn ≤ zc) :
    Calls Tryd.prog 8 #[.slice mo n c, .slice zo zn zc] w fun e w' => e = .returned (.bool true) ∧ Kp w w' := by
  have hn := hs.2.1
  have hzn := hz.2.1
  unfold maxLen at hn hzn
  go_enter Tryd.func8, Tryd.ntmps8
  go_wp2_with fail
  (with_reducible refine (long_any w mo n c ms hs).mono ?_)
  rintro e w1 ⟨b, rfl, hk1, hb⟩
  by_cases hbad : b = true ∨ 40 < n ∨ 1000 < zn
  · cases b with
    | true =>
      go_wp2_with fail
      go_ret
      exact ⟨rfl, hk1⟩
    | false =>
      by_cases h40 : 40 < n
      · go_wp2_with fail
        go_ret
        exact ⟨rfl, hk1⟩
      · have h1000 : 1000 < zn := by simp at hbad; omega
        clear hbad
        go_wp2_with fail
        go_ret
        exact ⟨rfl, hk1⟩
  · have hbf : b = false := by cases b <;> simp_all
    subst hbf
    have h40 : n ≤ 40 := by omega
    have h1000 : zn ≤ 1000 := by omega
    clear hbad
    obtain ⟨h400, htot⟩ := hb rfl
    have hs1 := Kp.lss hk1 hs
    have hz1 := Kp.bs hk1 hz
    have hH1 := Kp.err hk1 hH
    have hl := Lib.hid hs.1
    clear hs hb hz hH
    have hP0 := St.new w1 rfl 39 5 (fun i => (Row.ent ⟨none, 0, 0, []⟩))
    go_wp2_with fail
    obtain ⟨rb, hrb⟩ : ∃ x, x = w1.heap.size := ⟨_, rfl⟩
    rw [← hrb] at hP0 ⊢
    clear hrb
    generalize w1.alloc (.cells #[.slice none 0 0, .int .i64 0] 39) = wq at hP0 ⊢
    have hP0 : ∃ (k tc L lc : Nat) (tp lo : Option Addr) (R : Nat → Row), k ≤ n ∧ (0 : Int) = (k : Int) ∧ (none : Option Addr) = lo ∧ (none : Option Addr) = tp ∧ 0 = L ∧ 0 = lc ∧ 0 = tc ∧ 0 = 2 * k ∧ St w1 wq rb [] 0 tp (2 * k) tc (tvals R (2 * k)) 5 lo L lc ((lineK ms k).map by8) ent0 (2 * k) (fun i => (R i).ent) ∧ (∀ j, j < 2 * k → (R j).bs = wantB ms j) ∧ (∀ j (h : j < ms.length), j < k → ms[j].length ≤ 65535) :=
      ⟨0, 0, 0, 0, none, none, fun _ => ⟨none, 0, 0, []⟩, by omega, rfl, rfl, rfl, rfl, rfl, rfl, rfl, hP0, by omega, by omega⟩
    go_loopw [6, 7, 8] (fun ln rw_ i wr => ∃ (k tc L lc : Nat) (tp lo : Option Addr) (R : Nat → Row), k ≤ n ∧ i = .int .i64 k ∧ ln = .slice lo L lc ∧ rw_ = .slice tp (2 * k) tc ∧ St w1 wr rb [] 0 tp (2 * k) tc (tvals R (2 * k)) 5 lo L lc ((lineK ms k).map by8) ent0 (2 * k) (fun i => (R i).ent) ∧ (∀ j, j < 2 * k → (R j).bs = wantB ms j) ∧ (∀ j (h : j < ms.length), j < k → ms[j].length ≤ 65535)) (fun _ _ i _ => n - (intOf i).toNat)
    case atStart =>
      obtain ⟨k, tc, L, lc, tp, lo, R, h1, h2, rfl, rfl, rfl, rfl, rfl, h3, h4, h5, h6⟩ := hP0
      obtain rfl : k = 0 := by omega
      exact ⟨0, 0, 0, 0, none, none, R, h1, rfl, rfl, rfl, h4, h5, h6⟩
    case round =>
      clear hP0
      obtain ⟨k, tc, L, lc, tp, lo, R, hk, rfl, rfl, rfl, hS, hR, hms⟩ := hrel
      by_cases hlt : k < n
      · have hkl : k < ms.length := by rw [hl.out]; exact hlt
        obtain ⟨b, off, xo, xn, xc, rfl, hc1, hX, hxn⟩ := hs1.2.2 k hkl
        have hc1 := Kp.cell hS.keeps hc1
        have HR := Lib.hid hR; clear hR
        by_cases hx : xn ≤ 65535
        · have hL : L ≤ 1000000 := by
            have h1 := hS.lin.bs.1
            have h2 := offK_tot ms k (by omega)
            have h3 := totL_mono ms (ms.length - k) (k := k) (by omega)
            rw [Nat.add_sub_cancel' (by omega)] at h3
            unfold offK at h2
            omega
          go_wp2_with fail
          (with_reducible refine (put_any wr none xo 0 xn 0 xc [] ms[k] (Bs.zero _ _) (Kp.bs hS.keeps hX) (by omega) hx).mono ?_)
          rintro e w2 ⟨g, rfl, hO2, hk2⟩
          have hS2 := hS.add hk2 (Row.ent ⟨some ⟨g, 0, none⟩, 0 + 2 + xn, 0 + 2 + xn, putL [] ms[k]⟩) (Own.mono hO2 (fun _ _ => Nat.zero_le _)) (fun j hj => (hO2.lt j (mem_blkL.1 hj)).1)
          rw [upd_ent] at hS2
          clear hO2
          have hc2 := Kp.cell hk2 hc1
          clear hc1
          go_wp2_with fail
          (with_reducible refine (put_any w2 none xo 0 xn 0 xc [] ms[k] (Bs.zero _ _) (Kp.bs hS2.keeps hX) (by omega) hx).mono ?_)
          rintro e w3 ⟨g2, rfl, hO3, hk3⟩
          have hS3 := hS2.add hk3 (Row.ent ⟨some ⟨g2, 0, none⟩, 0 + 2 + xn, 0 + 2 + xn, putL [] ms[k]⟩) (Own.mono hO3 (fun _ _ => Nat.zero_le _)) (fun j hj => (hO3.lt j (mem_blkL.1 hj)).1)
          rw [upd_ent] at hS3
          clear hO3 hS hS2
          obtain ⟨R2, hR2⟩ : ∃ R2, R2 = upd (upd R (2 * k) ⟨some ⟨g, 0, none⟩, 0 + 2 + xn, 0 + 2 + xn, putL [] ms[k]⟩) (2 * k + 1) ⟨some ⟨g2, 0, none⟩, 0 + 2 + xn, 0 + 2 + xn, putL [] ms[k]⟩ := ⟨_, rfl⟩
          have hzs : tvals R2 (2 * k + 1 + 1) = tvals R (2 * k) ++ [.slice (some ⟨g, 0, none⟩) (0 + 2 + xn) (0 + 2 + xn), .slice (some ⟨g2, 0, none⟩) (0 + 2 + xn) (0 + 2 + xn)] := by
            rw [hR2, tvals_upd, tvals_upd]; simp
          rw [← hR2] at hS3
          have hBa : ∀ w', ((R2 (2 * k)).ent).P w' → Bs w' (some ⟨g, 0, none⟩) (0 + 2 + xn) (putL [] ms[k]) := by
            intro w' h1
            rw [hR2, upd_ne _ _ _ _ (by omega), upd_self] at h1
            exact Own.bs h1
          have HBa := Lib.hid hBa; clear hBa
          have Hxl := Lib.hid (show ((putL [] ms[k]).map by8).length = (0 + 2 + xn) * 1 by rw [List.length_map, putL_length, hX.1]; simp)
          have Hln := Lib.hid (show (lineK ms (k + 1)).map by8 = (lineK ms k).map by8 ++ (putL [] ms[k]).map by8 by rw [lineK_succ ms k hkl, ← List.map_append]; simp [putL])
          have hR2' : ∀ j, j < 2 * k + 1 + 1 → (R2 j).bs = wantB ms j := by
            intro j hj
            rw [hR2]
            by_cases h1 : j = 2 * k + 1
            · subst h1; rw [upd_self]; exact (wantB_lo ms k _ hkl (by omega)).symm
            · rw [upd_ne _ _ _ _ h1]
              by_cases h2 : j = 2 * k
              · subst h2; rw [upd_self]; exact (wantB_lo ms k _ hkl (by omega)).symm
              · rw [upd_ne _ _ _ _ h2]; exact HR.out j (by omega)
          have HR2 := Lib.hid hR2'; clear hR2' hR2
          have Hzs := Lib.hid hzs; clear hzs
          go_wp2_with (first
            | (at_builtin; refine wpList_app rfl (.tmp 74) (.tmp 77) 53 rfl el53 0 rfl (hS3.tab.keep (Kp.new _ _)) rfl [.slice (some ⟨g, 0, none⟩) (0 + 2 + xn) (0 + 2 + xn), .slice (some ⟨g2, 0, none⟩) (0 + 2 + xn) (0 + 2 + xn)] rfl (Cs.new w3 _ 22 (0, 0)) (by simp [Value.oneCell']) (2 * k + 1 + 1) (by omega) (tvals R2 (2 * k + 1 + 1)) Hzs.out (by omega) (Nat.zero_le _) ?_; intro tp2 tc2 w4 ha4)
            | (at_builtin; refine wpList_app rfl (.tmp 79) (.tmp 80) 22 rfl el22 0 rfl ((hS3.kp (Kp.new _ _)).tabApp ha4).lin rfl ((putL [] ms[k]).map by8) Hxl.out (HBa.out _ (((hS3.kp (Kp.new _ _)).tabApp ha4).fam (2 * k) (by omega))).2.2 (cells_map_one _ (fun _ => rfl) _) (L + 2 + xn) (by omega) ((lineK ms (k + 1)).map by8) Hln.out (by omega) (Nat.zero_le _) ?_; intro lo2 lc2 w5 ha5))
          have hS5 := ((hS3.kp (Kp.new _ _)).tabApp ha4).linApp ha5
          clear ha4 ha5 hS3
          have e2 : 2 * k + 1 + 1 = 2 * (k + 1) := by omega
          rw [e2] at hS5 HR2
          go_roundw
          case rel =>
            refine ⟨k + 1, tc2, L + 2 + xn, lc2, tp2, lo2, R2, by omega, by go_num, rfl, by rw [← e2], hS5, HR2.out, ?_⟩
            intro j hj hj2
            rcases Nat.lt_or_ge j k with h1 | h1
            · exact hms j hj h1
            · obtain rfl : j = k := by omega
              rw [hX.1]; exact hx
          case measure => simp [intOf]; omega
        · go_wp2_with fail
          go_ret
          exact ⟨rfl, Kp.trans hk1 hS.keeps⟩
      · obtain rfl : k = ms.length := by rw [hl.out]; omega
        have hnl : n = ms.length := hl.out.symm
        subst hnl
        obtain ⟨wE, rfl⟩ : ∃ x, x = wr := ⟨_, rfl⟩
        have hms : ∀ j (h : j < ms.length), ms[j].length ≤ 65535 := fun j h => hms j h h
        have hLo : offK ms ms.length = L := by have := hS.lin.bs.1; exact this
        have hL : L ≤ 1000000 := by
          have h2 := offK_tot ms ms.length (Nat.le_refl _)
          omega
        have hzl : l.length = zn := hz1.1
        have Hms := Lib.hid hms; clear hms
        have HR := Lib.hid hR; clear hR
        have HLo := Lib.hid hLo; clear hLo
        have Hzl := Lib.hid hzl; clear hzl
        go_wp2_with fail
        (with_reducible refine (put_any wE none zo 0 zn 0 zc [] l (Bs.zero _ _) (Kp.bs hS.keeps hz1) (by omega) (by omega)).mono ?_)
        rintro e w2 ⟨g, rfl, hO2, hk2⟩
        have hS2 := hS.setAux hk2 (Row.ent ⟨some ⟨g, 0, none⟩, 0 + 2 + zn, 0 + 2 + zn, putL [] l⟩) (Own.mono hO2 (fun _ _ => Nat.zero_le _)) (fun j hj => (hO2.lt j (mem_blkL.1 hj)).1)
        clear hO2 hS
        go_wp2_with fail
        have hlenL : (lineK ms ms.length).length = L := hS2.lin.bs.1
        (with_reducible refine (hS2.feed hS2.lin.bs (fun _ hk => .inr (.inl hk)) (by rw [hlenL]; omega)).mono ?_)
        rintro e w3 ⟨rfl, hS3⟩
        rw [hlenL] at hS3
        clear hS2 hlenL
        go_wp2_with fail
        have hBt : Bs w3 (some ⟨g, 0, none⟩) (1 + zn) ((putL [] l).take (1 + zn)) := Bs.take (n := 0 + 2 + zn) (Own.bs hS3.aux) (1 + zn) (by omega)
        have hmem : ∀ k ∈ blkL (some (⟨g, 0, none⟩ : Addr)), k < w1.heap.size ∨ k ∈ blkL lo ∨ k ∈ (Row.ent ⟨some ⟨g, 0, none⟩, 0 + 2 + zn, 0 + 2 + zn, putL [] l⟩).bl := fun _ hk => .inr (.inr hk)
        have hlt2 : ((putL [] l).take (1 + zn)).length = 1 + zn := hBt.1
        (with_reducible refine (hS3.feed hBt hmem (by rw [hlt2]; omega)).mono ?_)
        rintro e w4 ⟨rfl, hS4⟩
        rw [hlt2, Nat.add_comm 1 zn, ← Hzl.out, fed_all ms l] at hS4
        obtain ⟨T, hT⟩ : ∃ T, T = 0 + L + (l.length + 1) := ⟨_, rfl⟩
        rw [← hT] at hS4
        have hTb : T ≤ 2000000 := by have := Hzl.out; omega
        obtain ⟨p, hp⟩ : ∃ p, p = offK ms ms.length + l.length + 1 := ⟨_, rfl⟩
        have Hsome : ∀ t (ht : t < ms.length), nextL (heldAt (ms ++ [l]) t p) = some (ms[t], heldAt (ms ++ [l]) (t + 1) p) := fun t ht => by rw [hp]; exact fed_some ms l t ht (Hms.out t ht)
        have HSome := Lib.hid Hsome; clear Hsome
        rw [← hp] at hS4
        have Hp := Lib.hid hp; clear hp
        clear hT hS3 hBt hlt2 hmem
        go_wp2_with fail
        obtain ⟨tl, htl⟩ : ∃ x, x = Row.ent ⟨some ⟨g, 0, none⟩, 0 + 2 + zn, 0 + 2 + zn, putL [] l⟩ := ⟨_, rfl⟩
        obtain ⟨lv, hlv⟩ : ∃ x, x = (lineK ms ms.length).map by8 := ⟨_, rfl⟩
        rw [Hzl.out] at hS4
        rw [← htl, ← hlv] at hS4
        clear htl hlv
        go_loopw [7, 15] (fun rw_ i wr => ∃ (k tc : Nat) (tp : Option Addr) (R : Nat → Row), k ≤ ms.length ∧ i = .int .i64 k ∧ rw_ = .slice tp (2 * ms.length + k) tc ∧ St w1 wr rb (heldAt (ms ++ [l]) k p) T tp (2 * ms.length + k) tc (tvals R (2 * ms.length + k)) 5 lo L lc lv tl (2 * ms.length + k) (fun i => (R i).ent) ∧ (∀ j, j < 2 * ms.length + k → (R j).bs = wantB ms j)) (fun _ i _ => ms.length - (intOf i).toNat)
        case atStart => exact ⟨0, tc, tp, R, by omega, rfl, rfl, hS4, HR.out⟩
        case round =>
          clear hS4 HR
          obtain ⟨k, tc, tp, R, hk, rfl, rfl, hS, hR⟩ := hrel
          have HR := Lib.hid hR; clear hR
          by_cases hlt : k < ms.length
          · go_wp2_with fail
            (with_reducible refine (hS.next (by omega) (HSome.out k hlt)).mono ?_)
            rintro e w5 ⟨bo, cap, rfl, _, hS5⟩
            rw [upd_ent] at hS5
            obtain ⟨R2, hR2⟩ : ∃ R2, R2 = upd R (2 * ms.length + k) ⟨bo, ms[k].length, cap, ms[k]⟩ := ⟨_, rfl⟩
            have hzs : tvals R2 (2 * ms.length + k + 1) = tvals R (2 * ms.length + k) ++ [.slice bo ms[k].length cap] := by
              rw [hR2, tvals_upd]
            rw [← hR2] at hS5
            have hR2' : ∀ j, j < 2 * ms.length + (k + 1) → (R2 j).bs = wantB ms j := by
              intro j hj
              rw [hR2]
              by_cases h1 : j = 2 * ms.length + k
              · subst h1; rw [upd_self]; exact (wantB_hi ms k _ hlt rfl).symm
              · rw [upd_ne _ _ _ _ h1]; exact HR.out j (by omega)
            have HR2 := Lib.hid hR2'; clear hR2' hR2 HR hS
            have Hzs := Lib.hid hzs; clear hzs
            go_wp2_with (at_builtin; refine wpList_app rfl (.tmp 120) (.tmp 122) 53 rfl el53 0 rfl (hS5.tab.keep (Kp.new _ _)) rfl [.slice bo ms[k].length cap] rfl (Cs.new w5 _ 22 (0, 0)) (by simp [Value.oneCell']) (2 * ms.length + k + 1) (by omega) (tvals R2 (2 * ms.length + k + 1)) Hzs.out (by omega) (Nat.zero_le _) ?_; intro tp2 tc2 w6 ha6)
            have hS6 := ((hS5.kp (Kp.new _ _)).tabApp ha6)
            clear ha6 hS5
            go_roundw
            case rel => exact ⟨k + 1, tc2, tp2, R2, by omega, by go_num, rfl, hS6, HR2.out⟩
            case measure => simp [intOf]; omega
          · obtain rfl : k = ms.length := by omega
            obtain ⟨wF, rfl⟩ : ∃ x, x = wr := ⟨_, rfl⟩
            clear hlt hk
            go_wp2_with fail
            clear hP0
            obtain ⟨N3, hN3⟩ : ∃ N, N = 2 * ms.length + ms.length := ⟨_, rfl⟩
            rw [← hN3] at hS HR ⊢
            have hN3a : 3 * ms.length ≤ N3 := by omega
            have hN3b : N3 ≤ 3 * ms.length := by omega
            clear hN3
            go_loopw [18] (fun i wr => ∃ k : Nat, k ≤ ms.length ∧ i = .int .i64 k ∧ St w1 wr rb (heldAt (ms ++ [l]) ms.length p) T tp N3 tc (tvals R N3) 5 lo L lc lv tl N3 (fun i => (R i).ent)) (fun i _ => ms.length - (intOf i).toNat)
            case atStart => exact ⟨0, by omega, rfl, hS⟩
            case round =>
              clear hS
              obtain ⟨k, hk, rfl, hS⟩ := hrel
              by_cases hlt : k < ms.length
              · obtain ⟨gt, rfl⟩ := hS.tab.at0 (by omega)
                obtain ⟨mb, moff, xo, xn, xc, rfl, hmc, hmX, hmn⟩ := hs1.2.2 k hlt
                have hmX := Kp.bs hS.keeps hmX
                have hmc := Kp.cell hS.keeps hmc
                have hxn : ms[k].length = xn := hmX.1
                obtain ⟨o1, c1, hc1, hO1⟩ := hS.row (2 * k) (by omega) ((HR.out _ (by omega)).trans (wantB_lo ms k _ hlt (by omega))) (m := 2 + xn) (by rw [putL_length, hxn]; simp)
                obtain ⟨o2, c2, hc2, hO2⟩ := hS.row (2 * k + 1) (by omega) ((HR.out _ (by omega)).trans (wantB_lo ms k _ hlt (by omega))) (m := 2 + xn) (by rw [putL_length, hxn]; simp)
                obtain ⟨o3, c3, hc3, hO3⟩ := hS.row (2 * ms.length + k) (by omega) ((HR.out _ (by omega)).trans (wantB_hi ms k _ hlt rfl)) (m := xn) hxn
                obtain ⟨q1, rfl⟩ := hO1.at0 (by omega)
                have hcap := hO1.cap
                have e1 : ∀ q, Calls Tryd.prog 13 #[.slice o3 xn c3, .slice xo xn xc] (wr.drewN q) fun e w' => e = .returned (.bool true) ∧ ∃ k, w' = (wr.drewN q).drewN k := fun q => by
                  have := same_any (wr.drewN q) o3 xo xn xn c3 xc _ _ (Kp.bs (Kp.of_drewN _ _) hO3.bs) (Kp.bs (Kp.of_drewN _ _) hmX)
                  simpa using this
                have e2 : ∀ q, Calls Tryd.prog 13 #[.slice (some ⟨q1, 0, none⟩) (2 + xn) c1, .slice o2 (2 + xn) c2] (wr.drewN q) fun e w' => e = .returned (.bool true) ∧ ∃ k, w' = (wr.drewN q).drewN k := fun q => by
                  have := same_any (wr.drewN q) (some ⟨q1, 0, none⟩) o2 (2 + xn) (2 + xn) c1 c2 _ _ (Kp.bs (Kp.of_drewN _ _) hO1.bs) (Kp.bs (Kp.of_drewN _ _) hO2.bs)
                  simpa using this
                have e3 : ∀ q cc, Calls Tryd.prog 13 #[.slice (if c1 = 2 then some ⟨q1, 0, none⟩ else some ⟨q1, 2, none⟩) xn cc, .slice xo xn xc] (wr.drewN q) fun e w' => e = .returned (.bool true) ∧ ∃ k, w' = (wr.drewN q).drewN k := fun q cc => by
                  have h1 := hO1.bs.cut 2 xn (by omega) (c1 = 2) (by omega)
                  rw [putL_drop, List.take_of_length_le (by omega)] at h1
                  simp only [Option.map_some, Addr.add_lit, Nat.zero_add] at h1
                  have := same_any (wr.drewN q) _ xo xn xn cc xc _ _ (Kp.bs (Kp.of_drewN _ _) h1) (Kp.bs (Kp.of_drewN _ _) hmX)
                  simpa using this
                have E1 := Lib.hid e1; clear e1
                have E2 := Lib.hid e2; clear e2
                have E3 := Lib.hid e3; clear e3
                clear hO1 hO2 hO3 hmX
                have Hxn := Lib.hid hxn; clear hxn
                go_upto_region 30 with fail
                go_cut [187] (fun v wc => v = .bool false ∧ ∃ q, wc = wr.drewN q)
                case first =>
                  have s1 : IntKind.i64.wrap (2 * (ms.length : Int)) = 2 * (ms.length : Int) := IntWalk.i64_in _ (by omega)
                  have s2 : IntKind.i64.wrap (2 * (ms.length : Int) + (k : Int)) = 2 * (ms.length : Int) + (k : Int) := IntWalk.i64_in _ (by omega)
                  have s3 : (2 * (ms.length : Int) + (k : Int)).toNat = 2 * ms.length + k := by omega
                  have s4 : 0 ≤ 2 * (ms.length : Int) + (k : Int) := by omega
                  have s5 : 2 * (ms.length : Int) + (k : Int) < (N3 : Int) := by omega
                  have t1 : IntKind.i64.wrap (2 * (k : Int)) = 2 * (k : Int) := IntWalk.i64_in _ (by omega)
                  have t2 : IntKind.i64.wrap (2 * (k : Int) + 1) = 2 * (k : Int) + 1 := IntWalk.i64_in _ (by omega)
                  have t3 : (2 * (k : Int)).toNat = 2 * k := by omega
                  have t4 : (2 * (k : Int) + 1).toNat = 2 * k + 1 := by omega
                  have t5 : 0 ≤ 2 * (k : Int) + 1 := by omega
                  have t6 : 2 * (k : Int) + 1 < (N3 : Int) := by omega
                  have t7 : 0 ≤ 2 * (k : Int) := by omega
                  have t8 : 2 * (k : Int) < (N3 : Int) := by omega
                  have v1 : IntKind.i64.wrap ((xn : Int) + 2) = 2 + (xn : Int) := by rw [IntWalk.i64_in _ (by omega)]; omega
                  have v2 : (((2 + xn : Nat) : Int) != 2 + (xn : Int)) = false := by simp
                  by_cases hc2 : c1 = 2
                  · rw [if_pos hc2] at E3
                    subst hc2
                    have hx0 : xn = 0 := by omega
                    have e4 : ∀ q, Calls Tryd.prog 13 #[.slice (some ⟨q1, 0, none⟩) 0 0, .slice xo xn xc] (wr.drewN q) fun e w' => e = .returned (.bool true) ∧ ∃ k, w' = (wr.drewN q).drewN k := fun q => by
                      have h := E3.out q 0
                      rw [show (Value.slice (some ⟨q1, 0, none⟩) xn 0) = .slice (some ⟨q1, 0, none⟩) 0 0 by rw [hx0]] at h
                      exact h
                    have E4 := Lib.hid e4; clear e4 hx0
                    refine wp_region_quiet_lit (by kernel_rfl) (by kernel_rfl) ?_
                    clear hS HR HSome HLo Hp Hzl Hms hs1 hz1 hH1 hk1 hk2 hL hTb h400 htot hms hn hzn h1000
                    iterate 12 (go_big_quiet_step (fail))
                    go_big_quiet_step ((go_at_call 13; exact Calls.quiet_of (E1.out _)))
                    iterate 28 (go_big_quiet_step (fail))
                    go_big_quiet_step ((go_at_call 13; exact Calls.quiet_of (E2.out _)))
                    iterate 13 (go_big_quiet_step (fail))
                    go_big_quiet_step ((go_at_call 13; exact Calls.quiet_of (E4.out _)))
                    iterate 2 (go_big_quiet_step (fail))
                    refine wpQuiet_nil ?_
                    intro _ hw'
                    obtain ⟨nq, hw''⟩ := hw'
                    subst hw''
                    go_wp2_with fail
                    go_meet
                    case rel => exact ⟨rfl, _, rfl⟩
                  · rw [if_neg hc2] at E3
                    refine wp_region_quiet_lit (by kernel_rfl) (by kernel_rfl) ?_
                    clear hS HR HSome HLo Hp Hzl Hms hs1 hz1 hH1 hk1 hk2 hL hTb h400 htot hms hn hzn h1000
                    iterate 12 (go_big_quiet_step (fail))
                    go_big_quiet_step ((go_at_call 13; exact Calls.quiet_of (E1.out _)))
                    iterate 28 (go_big_quiet_step (fail))
                    go_big_quiet_step ((go_at_call 13; exact Calls.quiet_of (E2.out _)))
                    iterate 13 (go_big_quiet_step (fail))
                    go_big_quiet_step ((go_at_call 13; exact Calls.quiet_of (E3.out _ _)))
                    iterate 2 (go_big_quiet_step (fail))
                    refine wpQuiet_nil ?_
                    intro _ hw'
                    obtain ⟨nq, hw''⟩ := hw'
                    subst hw''
                    go_wp2_with fail
                    go_meet
                    case rel => exact ⟨rfl, _, rfl⟩
                case rest =>
                  obtain ⟨rfl, q, rfl⟩ := hcut
                  go_wp2_with fail
                  go_roundw
                  case rel => exact ⟨k + 1, by omega, by go_num, hS.kp (Kp.of_drewN _ _)⟩
                  case measure => simp [intOf]; omega
              · obtain rfl : k = ms.length := by omega
                obtain ⟨wF, rfl⟩ : ∃ x, x = wr := ⟨_, rfl⟩
                clear hlt hk
                go_wp2_with fail
                clear hms
                have hRn : ∀ j, j < 0 → (R j).bs = marked j (R j).n := by omega
                have hRl : ∀ j, j < N3 → (R j).n ≤ 70000 := fun j hj => by
                  have h1 : (R j).ok wF := hS.fam j hj
                  have h2 := (Own.bs h1).1
                  have h3 := wantB_le ms Hms.out j
                  rw [HR.out j hj] at h2
                  omega
                obtain ⟨held, hheld⟩ : ∃ x, x = heldAt (ms ++ [l]) ms.length p := ⟨_, rfl⟩
                rw [← hheld] at hS
                have Hheld := Lib.hid hheld; clear hheld
                go_loopw [19] (fun i wr => ∃ (k : Nat) (R : Nat → Row), k ≤ N3 ∧ i = .int .i64 k ∧ St w1 wr rb held T tp N3 tc (tvals R N3) 5 lo L lc lv tl N3 (fun i => (R i).ent) ∧ (∀ j, j < k → (R j).bs = marked j (R j).n) ∧ ∀ j, j < N3 → (R j).n ≤ 70000) (fun i _ => N3 - (intOf i).toNat)
                case atStart => exact ⟨0, R, by omega, rfl, hS, hRn, hRl⟩
                case round =>
                  clear hS hRn HR hRl
                  obtain ⟨i, R, hi, rfl, hS, hR, hRl⟩ := hrel
                  have HRl := Lib.hid hRl; clear hRl
                  have HR := Lib.hid hR; clear hR
                  by_cases hlt : i < N3
                  · obtain ⟨gt, rfl⟩ := hS.tab.at0 (by omega)
                    obtain ⟨o, m, c1, b, hRi⟩ : ∃ o m c b, R i = ⟨o, m, c, b⟩ := ⟨_, _, _, _, rfl⟩
                    have hb0 : b.length = m := by
                      have h1 : (R i).ok wr := hS.fam i hlt
                      have h2 := (Own.bs h1).1
                      rw [hRi] at h2
                      exact h2
                    have hm : m ≤ 9223372036854775807 := by
                      have h1 : (R i).ok wr := hS.fam i hlt
                      have h2 := (Own.bs h1).2.1
                      rw [hRi] at h2
                      exact h2
                    have hS0 : St w1 wr rb held T (some ⟨gt, 0, none⟩) N3 tc (tvals R N3) 5 lo L lc lv tl N3 (upd (fun i => (R i).ent) i (Row.ent ⟨o, m, c1, halfway (marked i m) b 0⟩)) := by
                      have h1 : halfway (marked i m) b 0 = b := by simp [halfway]
                      rw [h1, ← hRi, upd_ent, upd_same]
                      exact hS
                    have hct : ∀ wv k, St w1 wv rb held T (some ⟨gt, 0, none⟩) N3 tc (tvals R N3) 5 lo L lc lv tl N3 (upd (fun i => (R i).ent) i (Row.ent ⟨o, m, c1, halfway (marked i m) b k⟩)) → wv.cell? ⟨gt, i, none⟩ = some (.slice o m c1) := fun wv k h => by
                      have := h.cellT i hlt
                      rw [hRi] at this
                      exact this
                    have Hct := Lib.hid hct; clear hct
                    have Hb0 := Lib.hid hb0; clear hb0
                    have HRi := Lib.hid hRi; clear hRi
                    go_wp2_with fail
                    go_loopw [20] (fun i' wv => ∃ k : Nat, k ≤ m ∧ i' = .int .i64 k ∧ St w1 wv rb held T (some ⟨gt, 0, none⟩) N3 tc (tvals R N3) 5 lo L lc lv tl N3 (upd (fun i => (R i).ent) i (Row.ent ⟨o, m, c1, halfway (marked i m) b k⟩))) (fun i' _ => m - (intOf i').toNat)
                    case atStart => exact ⟨0, by omega, rfl, hS0⟩
                    case round =>
                      clear hS hS0
                      obtain ⟨k, hk, rfl, hS⟩ := hrel
                      have hcell := Hct.out _ _ hS
                      by_cases hkm : k < m
                      · have hO := hS.fam i hlt
                        rw [upd_self] at hO
                        have hO' : Own _ 0 5 1 o m c1 ((halfway (marked i m) b k).map by8) := hO
                        obtain ⟨gr, rfl⟩ := hO'.at0 (by omega)
                        have hfr := hO'.free k
                        have hcl := hO'.cell k (by omega)
                        have hkl : k < (halfway (marked i m) b k).length := by rw [halfway_length _ _ (by rw [marked_length, Hb0.out]), marked_length]; exact hkm
                        rw [List.getElem?_map, List.getElem?_eq_getElem hkl, Option.map_some] at hcl
                        have hset : (halfway (marked i m) b k).set k (mkB i) = halfway (marked i m) b (k + 1) := halfway_set _ _ k (by rw [marked_length, Hb0.out]) _ (by simp [marked, hkm])
                        have hO2 := hO'.store k (.int .u8 (i : Int))
                        have e8 : (Value.int .u8 (i : Int)) = by8 (mkB i) := by show _ = Value.int .u8 ((mkB i).toNat : Int); rw [mkB_toNat i (by omega)]
                        rw [e8, ← List.map_set, hset, ← e8] at hO2
                        have hS2 := hS.repl i hlt (Fr.set _ ⟨gr, k, none⟩ (.int .u8 (i : Int))) (fun j hj => by rw [upd_self]; simp only [List.mem_singleton] at hj; subst hj; exact mem_blkL_some.2 rfl) (Row.ent ⟨some ⟨gr, 0, none⟩, m, c1, halfway (marked i m) b (k + 1)⟩) hO2 (fun j hj => .inl (by rw [upd_self]; exact hj))
                        rw [upd_upd] at hS2
                        have HS2 := Lib.hid hS2; clear hS2 hO hO' hO2 e8 hset
                        go_wp2_with fail
                        go_roundw
                        case rel => exact ⟨k + 1, by omega, by go_num, HS2.out⟩
                        case measure => simp [intOf]; omega
                      · obtain rfl : k = m := by omega
                        rw [halfway_end _ _ _ (by rw [marked_length, Hb0.out]) (by rw [marked_length]; exact Nat.le_refl _), upd_ent] at hS
                        have ht : tvals R N3 = tvals (upd R i ⟨o, k, c1, marked i k⟩) N3 := tvals_congr _ _ _ (fun j _ => by
                          by_cases hj : j = i
                          · subst hj; rw [upd_self, HRi.out]; rfl
                          · rw [upd_ne _ _ _ _ hj])
                        rw [ht] at hS
                        have HS := Lib.hid hS
                        clear ht
                        go_wp2_with fail
                        go_roundw
                        case rel =>
                          refine ⟨i + 1, upd R i ⟨o, k, c1, marked i k⟩, by omega, by go_num, HS.out, fun j hj => ?_, fun j hj => ?_⟩
                          · by_cases h1 : j = i
                            · subst h1; rw [upd_self]
                            · rw [upd_ne _ _ _ _ h1]; exact HR.out j (by omega)
                          · have h2 := HRl.out j hj
                            by_cases h1 : j = i
                            · subst h1; rw [upd_self]; rw [HRi.out] at h2; exact h2
                            · rw [upd_ne _ _ _ _ h1]; exact h2
                        case measure => simp [intOf]; omega
                  · obtain rfl : N3 = i := by omega
                    obtain ⟨wG, rfl⟩ : ∃ x, x = wr := ⟨_, rfl⟩
                    clear hlt hi
                    go_wp2_with fail
                    have hS0 := hS.anew 22
                    rw [← entW_zero R R] at hS0
                    clear hS
                    go_loopw [21, 22] (fun wd i wr => ∃ (i' wc : Nat) (wo : Option Addr) (G : Nat → Row), i' ≤ N3 ∧ i = .int .i64 i' ∧ wd = .slice wo i' wc ∧ St w1 wr rb held T tp N3 tc (tvals R N3) 22 wo i' wc (tvals G i') tl N3 (entW R G i') ∧ ∀ j, j < i' → (G j).n = (R j).n + 70 ∧ (G j).bs = wideB j (R j).n 70) (fun _ i _ => N3 - (intOf i).toNat)
                    case atStart => exact ⟨0, 0, none, R, by omega, rfl, rfl, hS0, by omega⟩
                    case round =>
                      clear hS0
                      obtain ⟨i, wc, wo, G, hi, rfl, rfl, hS, hG⟩ := hrel
                      have HG := Lib.hid hG; clear hG
                      by_cases hlt : i < N3
                      · obtain ⟨gt, rfl⟩ := hS.tab.at0 (by omega)
                        obtain ⟨o, m, c1, b, hRi⟩ : ∃ o m c b, R i = ⟨o, m, c, b⟩ := ⟨_, _, _, _, rfl⟩
                        have hct := hS.cellT i hlt
                        have hok := hS.fam i hlt
                        rw [entW_at] at hok
                        have hok : (R i).ok wr := hok
                        have hm := HRl.out i hlt
                        have hbb := HR.out i hlt
                        rw [hRi] at hct hok hm hbb
                        have hb1 : b = marked i m := hbb
                        subst hb1
                        have hO : Own wr 0 5 1 o m c1 ((marked i m).map by8) := hok
                        have hm : m ≤ 70000 := hm
                        have hct : wr.cell? ⟨gt, i, none⟩ = some (.slice o m c1) := hct
                        clear hok hbb
                        have hlto : ∀ j ∈ blkL o, j < wr.heap.size := fun j hj => (hO.lt j (mem_blkL.1 hj)).2
                        have Hlto := Lib.hid hlto; clear hlto
                        have HRi := Lib.hid hRi; clear hRi
                        go_wp2_with fail
                        clear hct
                        obtain ⟨wi, rfl⟩ : ∃ x, x = wr := ⟨_, rfl⟩
                        go_loopw [23, 24] (fun gv k wv => ∃ (k' gc : Nat) (go : Option Addr), k' ≤ 70 ∧ k = .int .i64 k' ∧ gv = .slice go (m + k') gc ∧ Own wv 0 5 1 go (m + k') gc ((wideB i m k').map by8) ∧ Fr (blkL o) wi wv ∧ (go = o ∨ ∀ j ∈ blkL go, wi.heap.size ≤ j) ∧ Bs wv o m (marked i m)) (fun _ k _ => 70 - (intOf k).toNat)
                        case atStart => exact ⟨0, c1, o, by omega, rfl, rfl, by rw [wideB_zero]; exact hO, Fr.refl _ _, .inl rfl, hO.bs⟩
                        case round =>
                          clear hO
                          obtain ⟨k, gc, go, hk, rfl, rfl, hO, hF, hgo, hB⟩ := hrel
                          by_cases hk70 : k < 70
                          · have e8 : (Value.int .u8 (128 + (i : Int))) = by8 (mkB (128 + i)) := by show _ = Value.int .u8 ((mkB (128 + i)).toNat : Int); rw [mkB_toNat (128 + i) (by omega)]; rfl
                            have hzs : ((wideB i m k) ++ [mkB (128 + i)]).map by8 = (wideB i m k).map by8 ++ [.int .u8 (128 + (i : Int))] := by rw [e8, List.map_append]; rfl
                            have Hzs := Lib.hid hzs; clear hzs e8
                            have Hgo := Lib.hid hgo; clear hgo
                            go_wp2_with (at_builtin; refine wpList_app rfl (.tmp 225) (.tmp 229) 22 rfl el22 0 rfl (hO.keep (Kp.new _ _)) rfl [.int .u8 (128 + (i : Int))] rfl (Cs.new wr _ 5 (0, 0)) (by simp [Value.oneCell']) (m + k + 1) (by omega) (((wideB i m k) ++ [mkB (128 + i)]).map by8) Hzs.out (by omega) (Nat.zero_le _) ?_; intro go2 gc2 w2 ha)
                            obtain ⟨g1, g2, g3⟩ := grow_step hF Hgo.out hB Hlto.out (wideB_take i m k) (by rw [wideB_length]; omega) (Kp.new _ _) ha
                            have hO2 := ha.own
                            rw [← wideB_succ] at hO2
                            clear ha
                            go_roundw
                            case rel => exact ⟨k + 1, gc2, go2, by omega, by go_num, rfl, hO2, g1, g2, g3⟩
                            case measure => simp [intOf]; omega
                          · obtain rfl : k = 70 := by omega
                            have hS2 := hS.repl i hlt hF (fun j hj => by rw [entW_at]; show j ∈ blkL (R i).ao; rw [HRi.out]; exact hj) (ent2 (R i) ⟨go, m + 70, gc, wideB i m 70⟩) (by
                              show Bs wr (R i).ao (R i).n (R i).bs ∧ Bs wr go (m + 70) (wideB i m 70) ∧ ∀ j ∈ blkL (R i).ao ++ blkL go, j < wr.heap.size
                              rw [HRi.out]
                              refine ⟨hB, hO.bs, fun j hj => ?_⟩
                              rcases List.mem_append.1 hj with h1 | h1
                              · exact Nat.lt_of_lt_of_le (Hlto.out j h1) hF.size
                              · exact (hO.lt j (mem_blkL.1 h1)).2) (fun j hj => by
                              rw [entW_at]
                              show j ∈ blkL (R i).ao ∨ _
                              have hj : j ∈ blkL (R i).ao ++ blkL go := hj
                              rw [HRi.out] at hj ⊢
                              rcases List.mem_append.1 hj with h1 | h1
                              · exact .inl h1
                              · rcases hgo with h2 | h2
                                · rw [h2] at h1; exact .inl h1
                                · exact .inr (h2 j h1))
                            rw [entW_upd] at hS2
                            clear hS hF hB hO hgo
                            obtain ⟨G2, hG2⟩ : ∃ G2, G2 = upd G i ⟨go, m + 70, gc, wideB i m 70⟩ := ⟨_, rfl⟩
                            have hzs : tvals G2 (i + 1) = tvals G i ++ [.slice go (m + 70) gc] := by rw [hG2, tvals_upd]
                            rw [← hG2] at hS2
                            have hG2' : ∀ j, j < i + 1 → (G2 j).n = (R j).n + 70 ∧ (G2 j).bs = wideB j (R j).n 70 := by
                              intro j hj
                              rw [hG2]
                              by_cases h1 : j = i
                              · subst h1; rw [upd_self, HRi.out]; exact ⟨rfl, rfl⟩
                              · rw [upd_ne _ _ _ _ h1]; exact HG.out j (by omega)
                            have HG2 := Lib.hid hG2'; clear hG2' hG2
                            have Hzs := Lib.hid hzs; clear hzs
                            go_wp2_with (at_builtin; refine wpList_app rfl (.tmp 231) (.tmp 233) 53 rfl el53 0 rfl (hS2.lin.keep (Kp.new _ _)) rfl [.slice go (m + 70) gc] rfl (Cs.new wr _ 22 (0, 0)) (by simp [Value.oneCell']) (i + 1) rfl (tvals G2 (i + 1)) Hzs.out (by omega) (Nat.zero_le _) ?_; intro wo2 wc2 w5 ha5)
                            have hS5 := ((hS2.kp (Kp.new _ _)).linApp ha5)
                            clear ha5 hS2
                            go_roundw
                            case rel =>
                              exact ⟨i + 1, wc2, wo2, G2, by omega, by go_num, rfl, hS5, HG2.out⟩
                            case measure => simp [intOf]; omega
                      · obtain rfl : N3 = i := by omega
                        obtain ⟨wH, rfl⟩ : ∃ x, x = wr := ⟨_, rfl⟩
                        clear hlt hi
                        go_wp2_with fail
                        go_loopw [25] (fun i wr => ∃ i' : Nat, i' ≤ N3 ∧ i = .int .i64 i' ∧ St w1 wr rb held T tp N3 tc (tvals R N3) 22 wo N3 wc (tvals G N3) tl N3 (entW R G N3)) (fun i _ => N3 - (intOf i).toNat)
                        case atStart => exact ⟨0, by omega, rfl, hS⟩
                        case round =>
                          clear hS
                          obtain ⟨i, hi, rfl, hS⟩ := hrel
                          by_cases hlt : i < N3
                          · obtain ⟨gt, rfl⟩ := hS.tab.at0 (by omega)
                            obtain ⟨gw, rfl⟩ := hS.lin.at0 (by omega)
                            obtain ⟨o, m, c1, b, hRi⟩ : ∃ o m c b, R i = ⟨o, m, c, b⟩ := ⟨_, _, _, _, rfl⟩
                            obtain ⟨go, gm, gc, gb, hGi⟩ : ∃ o m c b, G i = ⟨o, m, c, b⟩ := ⟨_, _, _, _, rfl⟩
                            have hm := HRl.out i hlt
                            have hbb := HR.out i hlt
                            have hgg := HG.out i hlt
                            rw [hRi] at hm hbb hgg
                            rw [hGi] at hgg
                            have hm : m ≤ 70000 := hm
                            have hbb : b = marked i m := hbb
                            obtain ⟨hg1, hg2⟩ := hgg
                            have hg1 : gm = m + 70 := hg1
                            have hg2 : gb = wideB i m 70 := hg2
                            subst hbb hg1 hg2
                            have hf : ∀ wv, St w1 wv rb held T (some ⟨gt, 0, none⟩) N3 tc (tvals R N3) 22 (some ⟨gw, 0, none⟩) N3 wc (tvals G N3) tl N3 (entW R G N3) → _ := fun wv h => h.wide i hlt hRi hGi
                            have Hf := Lib.hid hf; clear hf hRi hGi
                            go_wp2_with fail
                            go_loopw [26] (fun k wr => ∃ k' : Nat, k' ≤ m + 70 ∧ k = .int .i64 k' ∧ St w1 wr rb held T (some ⟨gt, 0, none⟩) N3 tc (tvals R N3) 22 (some ⟨gw, 0, none⟩) N3 wc (tvals G N3) tl N3 (entW R G N3)) (fun k _ => m + 70 - (intOf k).toNat)
                            case atStart => exact ⟨0, by omega, rfl, hS⟩
                            case round =>
                              clear hS
                              obtain ⟨k, hk, rfl, hS⟩ := hrel
                              obtain ⟨hc1, hc2, hB1, hB2⟩ := Hf.out _ hS
                              by_cases hk2 : k < m + 70
                              · obtain ⟨b2, off2, rfl, _, hc4⟩ := hB2.at k hk2
                                have hk4 := hc4 k hk2
                                by_cases hkm : k < m
                                · obtain ⟨b1, off1, rfl, _, hc3⟩ := hB1.at k hkm
                                  have hk3 := hc3 k hkm
                                  rw [marked_get, mkB_toNat i (by omega)] at hk3
                                  rw [wideB_lo i m 70 k _ hkm, mkB_toNat i (by omega)] at hk4
                                  have hd1 : decide (k < m) = true := by simp; omega
                                  have hd2 : decide (m ≤ k) = false := by simp; omega
                                  have hne : ((i : Int) != (i : Int)) = false := by simp
                                  clear hc3 hc4 hB1 hB2
                                  go_wp2_with fail
                                  go_roundw
                                  case rel => exact ⟨k + 1, by omega, by go_num, hS⟩
                                  case measure => simp [intOf]; omega
                                · rw [wideB_hi i m 70 k _ (by omega), mkB_toNat (128 + i) (by omega)] at hk4
                                  have hd1 : decide (k < m) = false := by simp; omega
                                  have hd2 : decide (m ≤ k) = true := by simp; omega
                                  have hne : (((128 + i : Nat) : Int) != (128 : Int) + (i : Int)) = false := by simp
                                  clear hc4 hB1 hB2
                                  go_wp2_with fail
                                  go_roundw
                                  case rel => exact ⟨k + 1, by omega, by go_num, hS⟩
                                  case measure => simp [intOf]; omega
                              · clear hB1 hB2
                                go_wp2_with fail
                                go_roundw
                                case rel => exact ⟨i + 1, by omega, by go_num, hS⟩
                                case measure => simp [intOf]; omega
                          · obtain rfl : N3 = i := by omega
                            obtain ⟨wJ, rfl⟩ : ∃ x, x = wr := ⟨_, rfl⟩
                            clear hlt hi
                            have Hnone := Lib.hid (show nextL held = none by rw [Hheld.out, Hp.out]; exact fed_none ms l (by rw [Hzl.out]; omega))
                            have Hlast := Lib.hid (show ∀ y, y = (putL [] l).drop (l.length + 1) → ∃ rest, nextL (held ++ y) = some (l, rest) ∧ rest.length = 0 by rw [Hheld.out, Hp.out]; exact fun y hy => fed_last ms l y (by rw [Hzl.out]; omega) hy)
                            go_wp2_with fail
                            (with_reducible refine (hS.next_no (by omega) Hnone.out).mono ?_)
                            rintro e wx ⟨rfl, hS1⟩
                            clear hS
                            by_cases hz0 : zn = 0
                            · subst hz0
                              go_wp2_with fail
                              have hB0 : Bs (wx.alloc (.cells #[.int .u8 0] 5)) (some ⟨wx.heap.size, 0, none⟩) 1 [0] := Bs.lit wx [.int .u8 0] 5 (0, 0) _ 1 [0] rfl rfl rfl (by omega)
                              have hS2 := hS1.setAux (Kp.new wx (.cells #[.int .u8 0] 5)) (entB (some ⟨wx.heap.size, 0, none⟩) 1 [0]) ⟨hB0, fun j hj => by rw [mem_blkL_some] at hj; subst hj; simp⟩ (fun j hj => by have hj : j ∈ blkL (some (⟨wx.heap.size, 0, none⟩ : Addr)) := hj; rw [mem_blkL_some] at hj; omega)
                              have hmem : ∀ k ∈ blkL (some (⟨wx.heap.size, 0, none⟩ : Addr)), k < w1.heap.size ∨ k ∈ blkL wo ∨ k ∈ (entB (some ⟨wx.heap.size, 0, none⟩) 1 [0]).bl := fun _ hk => .inr (.inr hk)
                              (with_reducible refine (hS2.feed hB0 hmem (by simp; omega)).mono ?_)
                              rintro e wy ⟨rfl, hS3⟩
                              obtain ⟨rest, hnx, hr0⟩ := Hlast.out _ (last_byte l Hzl.out)
                              have Hnx := Lib.hid hnx; clear hnx
                              have Hr0 := Lib.hid hr0; clear hr0 hS1 hS2 hB0 hmem
                              go_wp2_with fail
                              (with_reducible refine (hS3.next (by simp; omega) Hnx.out).mono ?_)
                              rintro e wz ⟨bo, cap, rfl, hBy, hS4⟩
                              go_wp2_with fail
                              (with_reducible refine (same_kp wz bo _ _ _ cap zc l hBy (Kp.bs hS4.keeps hz1)).mono ?_)
                              rintro e wu ⟨rfl, hku⟩
                              have hS5 := hS4.kp hku
                              have hhd := hS5.heldN (by simp; omega)
                              rw [Hr0.out] at hhd
                              have hH5 := Kp.err hS5.keeps hH1
                              have hk5 := hS5.keeps
                              clear hS3 hS4 hS5 hBy
                              go_wp2_with fail
                              (with_reducible refine hhd.mono ?_)
                              rintro e wt ⟨rfl, hS6⟩
                              go_wp2_with fail
                              (with_reducible refine (known_yes wt a (Kp.err hS6.keeps hH1)).mono ?_)
                              rintro e ws ⟨rfl, hks⟩
                              go_wp2_with fail
                              go_ret
                              exact ⟨rfl, Kp.trans hk1 (Kp.trans hS6.keeps hks)⟩
                            · obtain ⟨z, rfl⟩ : ∃ z, zn = z + 1 := ⟨zn - 1, by omega⟩
                              have hzz : ¬ zc = z := by omega
                              obtain ⟨zb, zoff, rfl, hzlt, _⟩ := hz1.at 0 (by omega)
                              have hzs := hz1.sub z 1 (by omega)
                              go_wp2_with fail
                              (with_reducible refine (hS1.feed (Kp.bs hS1.keeps hzs) (fun k hk => .inl (by rw [mem_blkL_some] at hk; subst hk; exact hzlt)) (by simp; omega)).mono ?_)
                              rintro e wy ⟨rfl, hS3⟩
                              obtain ⟨rest, hnx, hr0⟩ := Hlast.out ((l.drop z).take 1) (by have h1 := Hzl.out; rw [List.take_of_length_le (by simp; omega), show z = l.length - 1 by omega]; exact last_byte' l (by omega))
                              have Hnx := Lib.hid hnx; clear hnx
                              have Hr0 := Lib.hid hr0; clear hr0 hS1
                              go_wp2_with fail
                              (with_reducible refine (hS3.next (by simp; omega) Hnx.out).mono ?_)
                              rintro e wz ⟨bo, cap, rfl, hBy, hS4⟩
                              go_wp2_with fail
                              (with_reducible refine (same_kp wz bo _ _ _ cap zc l hBy (Kp.bs hS4.keeps hz1)).mono ?_)
                              rintro e wu ⟨rfl, hku⟩
                              have hS5 := hS4.kp hku
                              have hhd := hS5.heldN (by simp; omega)
                              rw [Hr0.out] at hhd
                              have hH5 := Kp.err hS5.keeps hH1
                              have hk5 := hS5.keeps
                              clear hS3 hS4 hS5 hBy
                              go_wp2_with fail
                              (with_reducible refine hhd.mono ?_)
                              rintro e wt ⟨rfl, hS6⟩
                              go_wp2_with fail
                              (with_reducible refine (known_yes wt a (Kp.err hS6.keeps hH1)).mono ?_)
                              rintro e ws ⟨rfl, hks⟩
                              go_wp2_with fail
                              go_ret
                              exact ⟨rfl, Kp.trans hk1 (Kp.trans hS6.keeps hks)⟩
end Go.Proofs.YtkpdbdlkihgofaaDoor
