/- GradeTells: the walk. Conditions: the patterns lie there; the library's variable and the errors too. -/
import Derived.Test.YtjbjgpcldcpjmaaDoorTwinE
namespace Go.Proofs.YtjbjgpcldcpjmaaDoor
open Go.RowKit

set_option maxRecDepth 100000 in
set_option maxHeartbeats 8000000 in
theorem tells_any (w : World) (E : Nat → Addr) (mx : Int) (hV : Env w E mx) (more : Int) (nm : ByteArray) (a0 a1 al : Option Addr) (n0 c0 n1 c1 nl cl : Nat) (b0 b1 : List Int) (ls : List Ln) (hP : PatI w a0 a1 al n0 n1 nl b0 b1 ls)
    (nmo : ByteArray) (q0 q1 ql : Option Addr) (m0 d0 m1 d1 ml dl : Nat) (e0 e1 : List Int) (lo : List Ln) (hQ : PatI w q0 q1 ql m0 m1 ml e0 e1 lo) :
    Calls Tryd.prog 3 #[patV nm a0 a1 al n0 c0 n1 c1 nl cl, iv more, patV nmo q0 q1 ql m0 d0 m1 d1 ml dl] w fun e w' => e = .returned (.bool true) ∧ Kp w w' := by
  have Hll := Lib.hid hP.il.1
  have hk1 := Kp.new w (.cells #[.string nm, .slice a0 n0 c0, .slice a1 n1 c1, .slice al nl cl] 26)
  have hB1 := Bx.new w nm a0 a1 al n0 c0 n1 c1 nl cl
  obtain ⟨w1, hw1⟩ : ∃ w1, w1 = w.alloc (.cells #[.string nm, .slice a0 n0 c0, .slice a1 n1 c1, .slice al nl cl] 26) := ⟨_, rfl⟩
  rw [← hw1] at hk1 hB1
  obtain ⟨bx, hbx⟩ : ∃ bx, bx = w.heap.size := ⟨_, rfl⟩
  rw [← hbx] at hB1
  have hk2 := Kp.new w1 (.cells #[.string nmo, .slice q0 m0 d0, .slice q1 m1 d1, .slice ql ml dl] 26)
  have hO2 : Tc (w1.alloc (.cells #[.string nmo, .slice q0 m0 d0, .slice q1 m1 d1, .slice ql ml dl] 26)) w1.heap.size [.string nmo, .slice q0 m0 d0, .slice q1 m1 d1, .slice ql ml dl] := Tc.new w1 [.string nmo, .slice q0 m0 d0, .slice q1 m1 d1, .slice ql ml dl] 26
  have hB2 := hB1.kp hk2
  have hbl := hB1.lt
  obtain ⟨w2, hw2⟩ : ∃ w2, w2 = w1.alloc (.cells #[.string nmo, .slice q0 m0 d0, .slice q1 m1 d1, .slice ql ml dl] 26) := ⟨_, rfl⟩
  rw [← hw2] at hk2 hO2 hB2
  obtain ⟨bo, hbo⟩ : ∃ bo, bo = w1.heap.size := ⟨_, rfl⟩
  rw [← hbo] at hO2 hbl
  have hk12 := Kp.trans hk1 hk2
  have HV0 := Lib.hid hV
  have HP0 := Lib.hid hP
  have HQ0 := Lib.hid hQ
  have hbw : w.heap.size < bo := by omega
  have HV := Lib.hid (hV.keep hk12)
  have HP := Lib.hid (hP.kp hk12)
  have HQ := Lib.hid (hQ.kp hk12)
  have HL1 := Lib.hid (long_any w2 nm a0 a1 al n0 c0 n1 c1 nl cl b0 b1 ls HP.out.i0 HP.out.i1 HP.out.il)
  have HL2 := Lib.hid (fun w' (h : Kp w2 w') => long_any w' nmo q0 q1 ql m0 d0 m1 d1 ml dl e0 e1 lo (h.is HQ.out.i0) (h.is HQ.out.i1) (h.lns HQ.out.il))
  have HKn := Lib.hid (fun w' (h : Kp w2 w') => knownG_any w' E mx (HV.out.keep h))
  have Hk := Lib.hid hk12
  have HB := Lib.hid hB2
  have HO := Lib.hid hO2
  obtain ⟨y0, y1, y2, y3⟩ := hB2
  have z0 := hO2.cell 0 _ rfl
  have z1 := hO2.cell 1 _ rfl
  have z2 := hO2.cell 2 _ rfl
  have z3 := hO2.cell 3 _ rfl
  clear hV hP hQ hk1 hk2 hk12 hB1 hO2
  go_enter Tryd.func3, Tryd.ntmps3
  go_upto_region 1 with fail
  have hbo1 : bx + 1 = bo := by rw [hbo, hw1, hbx]; unfold World.alloc; simp only [Array.size_push]
  rw [← hw1, ← hbx, ← hw2, hbo1]
  clear hbo1
  clear hw1 hbx hbo hw2
  go_wp2_with fail
  (with_reducible refine HL1.out.mono ?_)
  rintro e w3 ⟨bl, rfl, hk3, hsh⟩
  have Hsh := Lib.hid hsh
  clear hsh y0 y1 y2 y3 z0 z1 z2 z3
  cases bl with
  | true =>
    go_wp2_with fail
    go_ret
    exact ⟨rfl, Kp.trans Hk.out hk3⟩
  | false =>
    obtain ⟨y0, y1, y2, y3⟩ := HB.out.kp hk3
    have hO3 := HO.out.kp hk3
    have z0 := hO3.cell 0 _ rfl
    have z1 := hO3.cell 1 _ rfl
    have z2 := hO3.cell 2 _ rfl
    have z3 := hO3.cell 3 _ rfl
    clear hO3
    go_wp2_with fail
    (with_reducible refine (HL2.out w3 hk3).mono ?_)
    rintro e w4 ⟨bl, rfl, hk4, hsh⟩
    have Hso := Lib.hid hsh
    clear hsh y0 y1 y2 y3 z0 z1 z2 z3
    have hk24 := Kp.trans hk3 hk4
    cases bl with
    | true =>
      go_wp2_with fail
      go_ret
      exact ⟨rfl, Kp.trans Hk.out hk24⟩
    | false =>
      replace Hsh := Lib.hid (Hsh.out (by trivial))
      replace Hso := Lib.hid (Hso.out (by trivial))
      obtain ⟨y0, y1, y2, y3⟩ := HB.out.kp hk24
      have HTw := Lib.hid (twin_any w4 nm a0 a1 al n0 c0 n1 c1 nl cl b0 b1 ls (HP.out.kp hk24) Hsh.out)
      go_wp2_with fail
      (with_reducible refine HTw.out.mono ?_)
      rintro e w5 ⟨T, r0, r1, tl, tt, ts, rfl, hk5, hbT, hT, hO⟩
      clear y0 y1 y2 y3 HTw
      have hk25 := Kp.trans hk24 hk5
      obtain ⟨ra0, rn0, rc0⟩ := r0
      obtain ⟨ra1, rn1, rc1⟩ := r1
      obtain ⟨ta, tn, tc⟩ := tt
      obtain ⟨xa, xn, xc⟩ := tl
      obtain ⟨_, e0', _⟩ := own_is hO.o0
      obtain ⟨_, e1', _⟩ := own_is hO.o1
      obtain ⟨e2', e3'⟩ := hO.nk
      have hcs : Cs w5 xa (lnc ls (ts.map cutT) ++ marks2) := hO.ol.cs
      have hPT := hO.patI hcs (by have := Hsh.out.2.2.1; have := Hll.out; omega) (fun l hl => by have := Hsh.out.2.2.2 l hl; omega)
      simp only at e0' e1' e2' e3' hPT
      subst e0'; subst e1'
      have hi0 := HP.out.i0.1
      have hi1 := HP.out.i1.1
      rw [hi0, hi1, Hll.out] at hPT
      rw [Hll.out] at e2' e3'
      subst e2'; subst e3'
      have HOt := Lib.hid hO
      have HTt := Lib.hid hT
      have HPT := Lib.hid hPT
      have Hk25 := Lib.hid hk25
      have HLv := Lib.hid (levels_all (HV.out.keep hk25) hPT (by have := Hsh.out.2.2.1; omega) nm rc0 rc1 xc more)
      have HRf := Lib.hid (fun w' (h : Kp w2 w') => ref_all (HP.out.kp h) (by have := Hsh.out.2.2.1; omega) nm c0 c1 cl more)
      have HCd := Lib.hid (fun w' (h : Kp w2 w') => code_any w' E (HV.out.keep h).ex (codeL b0 b1 ls more) (codeL_mem b0 b1 ls more))
      have HGs := Lib.hid (fun w' ao bo n m ca cb gs (hx : Grs w' ao n gs) (hy : Grs w' bo m gs) => by have := grades_any w' ao bo n m ca cb gs gs hx hy; rwa [alikeG_same] at this)
      have HUt := Lib.hid (fun w' (h : Kp w5 w') => untouched_any w' nm nm T ⟨xa, tn, xc⟩ ⟨ra0, b0.length + 9, rc0⟩ ⟨ra1, b1.length + 9, rc1⟩ ⟨xa, tn + 2, xc⟩ ⟨ta, tn, tc⟩ ts a0 a1 al n0 c0 n1 c1 tn cl b0 b1 ls (HP.out.kp (Kp.trans Hk25.out h)) Hsh.out (by have := HTt.out.kp h; rw [Hll.out] at this; exact this) (HOt.out.kp h))
      have t0 : w5.cell? ⟨T, 0, none⟩ = some (.string nm) := hT.cell 0 _ rfl
      have t1 : w5.cell? ⟨T, 1, none⟩ = some (.slice ra0 n0 rc0) := by rw [← hi0]; exact hT.cell 1 _ rfl
      have t2 : w5.cell? ⟨T, 2, none⟩ = some (.slice ra1 n1 rc1) := by rw [← hi1]; exact hT.cell 2 _ rfl
      have t3 : w5.cell? ⟨T, 3, none⟩ = some (.slice xa tn xc) := by rw [← Hll.out]; exact hT.cell 3 _ rfl
      clear hO hT hPT hk25 hcs hi0 hi1 hk24
      generalize codeL b0 b1 ls more = cc at HLv HRf HCd
      generalize gsL b0 b1 ls more = gs at HLv HRf
      go_wp2_with fail
      (with_reducible refine HLv.out.mono ?_)
      rintro e w6 ⟨hk6, ga, gn, gc, rfl, hG6⟩
      clear t0 t1 t2 t3 HLv
      have hk26 := Kp.trans Hk25.out hk6
      obtain ⟨y0, y1, y2, y3⟩ := HB.out.kp hk26
      go_wp2_with fail
      (with_reducible refine (HRf.out w6 hk26).mono ?_)
      rintro e w7 ⟨hk7, fa, fn, fc, rfl, hG7⟩
      clear y0 y1 y2 y3
      have hk27 := Kp.trans hk26 hk7
      go_wp2_with fail
      (with_reducible refine (HCd.out w7 hk27).mono ?_)
      rintro e _ ⟨rfl, rfl⟩
      have hcc : ((cc : Int) != (cc : Int)) = false := by simp
      go_wp2_with fail
      (with_reducible refine (HGs.out w7 _ _ _ _ _ _ gs (hk7.grs hG6.grs) hG7.grs).mono ?_)
      rintro e w8 ⟨rfl, hk8⟩
      have hk28 := Kp.trans hk27 hk8
      obtain ⟨y0, y1, y2, y3⟩ := HB.out.kp hk28
      go_wp2_with fail
      (with_reducible refine (HUt.out w8 (Kp.trans hk6 (Kp.trans hk7 hk8))).mono ?_)
      rintro e w9 ⟨rfl, hk9⟩
      clear y0 y1 y2 y3
      have hk29 := Kp.trans hk28 hk9
      have hk59 := Kp.trans hk6 (Kp.trans hk7 (Kp.trans hk8 hk9))
      have hTb : w2.heap.size ≤ T := by have := (Kp.trans hk3 hk4).size; omega
      have y0 := hk29.cell HB.out.1
      have hO9 := HO.out.kp hk29
      have z0 := hO9.cell 0 _ rfl
      have zf := hO9.free 0 _ rfl
      have hS9 := Fr.set w9 ⟨bo, 0, none⟩ (.string nm)
      have hbo2 : bo < w2.heap.size := HO.out.lt
      have HO10 := Lib.hid (hO9.set 0 (by simp) (.string nm))
      have HB10 := Lib.hid ((HB.out.kp hk29).fr hS9 (by simp; omega))
      have HK10 := Lib.hid (((Fr.of_kp (Kp.trans Hk.out hk29)).step hS9 (fun x hx => .inr (by simp only [List.mem_singleton] at hx; omega))).kp)
      have HT10 := Lib.hid ((HTt.out.kp hk59).fr hS9 (by simp; omega))
      have HU10 := Lib.hid ((HOt.out.kp hk59).fr hS9 (fun x hx => .inl (by simp only [List.mem_singleton] at hx; omega)))
      clear hO9 hS9 hk29 hk59 hk6 hk7 hk8 hk9 hk26 hk27 hk28 hG6 hG7 hcc HL1 HL2 HV HP HQ HCd HRf HUt HPT Hk25 hk5 hk3 hk4 HO HB HTt HOt
      go_upto_region 9 with fail
      change Code.wp _ _ _ _ (w9.setCell ⟨bo, 0, none⟩ (.string nm))
      generalize w9.setCell ⟨bo, 0, none⟩ (.string nm) = wc at *
      clear y0 z0 zf
      have HV := Lib.hid (HV0.out.keep HK10.out)
      have HP := Lib.hid (HP0.out.kp HK10.out)
      have HQ := Lib.hid (HQ0.out.kp HK10.out)
      clear HQ0 HKn
      have HKn := Lib.hid (fun w' (h : Kp wc w') => knownG_any w' E mx (HV.out.keep h))
      go_upto_region 10 with fail
      go_cut [66] (fun v wq => v = .bool (decide (0 ≤ more ∧ more ≤ 64)) ∧ wc = wq)
      case first =>
        by_cases h0 : 0 ≤ more
        · by_cases h1 : more ≤ 64
          · have e : decide (0 ≤ more ∧ more ≤ 64) = true := by simp [h0, h1]
            go_wp2_with fail
            go_meet
            case rel => exact ⟨by rw [e], rfl⟩
          · have e : decide (0 ≤ more ∧ more ≤ 64) = false := by simp [h1]
            go_wp2_with fail
            go_meet
            case rel => exact ⟨by rw [e], rfl⟩
        · have e : decide (0 ≤ more ∧ more ≤ 64) = false := by simp [h0]
          go_wp2_with fail
          go_meet
          case rel => exact ⟨by rw [e], rfl⟩
      case rest =>
        obtain ⟨rfl, rfl⟩ := hcut
        go_upto_if 66 with fail
        go_cut [12] (fun v wq => ∃ r : Int, v = iv r ∧ wc = wq)
        case first =>
          by_cases hc : 0 ≤ more ∧ more ≤ 64
          · have hd : decide (0 ≤ more ∧ more ≤ 64) = true := decide_eq_true hc
            have y3 := HB10.out.2.2.2
            have z3 := HO10.out.cell 3 _ rfl
            go_wp2_with fail
            go_meet
            case rel => exact ⟨_, rfl, rfl⟩
          · have hd : decide (0 ≤ more ∧ more ≤ 64) = false := decide_eq_false hc
            go_wp2_with fail
            go_meet
            case rel => exact ⟨_, rfl, rfl⟩
        case rest =>
          obtain ⟨r, rfl, rfl⟩ := hcut
          have HLv := Lib.hid (levels_all HV.out HQ.out (by have := Hso.out.2.2.1; omega) nm d0 d1 dl r)
          have HRf := Lib.hid (fun w' (h : Kp wc w') => ref_all (HQ.out.kp h) (by have := Hso.out.2.2.1; omega) nm d0 d1 dl r)
          have HCd := Lib.hid (fun w' (h : Kp wc w') => code_any w' E (HV.out.keep h).ex (codeL e0 e1 lo r) (codeL_mem e0 e1 lo r))
          generalize codeL e0 e1 lo r = cd at HLv HRf HCd
          generalize gsL e0 e1 lo r = go at HLv HRf
          have z0 := HO10.out.cell 0 _ rfl
          have z1 := HO10.out.cell 1 _ rfl
          have z2 := HO10.out.cell 2 _ rfl
          have z3 := HO10.out.cell 3 _ rfl
          go_wp2_with fail
          (with_reducible refine HLv.out.mono ?_)
          rintro e w11 ⟨hk11, ha, hn, hcp, rfl, hG11⟩
          clear z0 z1 z2 z3 HLv
          have hO11 := HO10.out.kp hk11
          have z0 := hO11.cell 0 _ rfl
          have z1 := hO11.cell 1 _ rfl
          have z2 := hO11.cell 2 _ rfl
          have z3 := hO11.cell 3 _ rfl
          go_wp2_with fail
          (with_reducible refine (HRf.out w11 hk11).mono ?_)
          rintro e w12 ⟨hk12, ia, jn, icp, rfl, hG12⟩
          clear z0 z1 z2 z3 HRf hO11
          have hkc12 := Kp.trans hk11 hk12
          go_wp2_with fail
          (with_reducible refine (HCd.out w12 hkc12).mono ?_)
          rintro e _ ⟨rfl, rfl⟩
          have hcc : ((cd : Int) != (cd : Int)) = false := by simp
          go_wp2_with fail
          (with_reducible refine (HGs.out w12 _ _ _ _ _ _ go (hk12.grs hG11.grs) hG12.grs).mono ?_)
          rintro e w13 ⟨rfl, hk13⟩
          have hkc13 := Kp.trans hkc12 hk13
          have HG1 := Lib.hid (And.intro (hk13.grs (hk12.grs hG11.grs)) (fun x hx => (hG11.lt x hx).1))
          have HG2 := Lib.hid (And.intro (hk13.grs hG12.grs) (fun x hx => Nat.le_trans hk11.size (hG12.lt x hx).1))
          have y3 := hkc13.cell HB10.out.2.2.2
          clear hcc hG11 hG12 hk11 hk12 hk13 hkc12 HCd HQ
          by_cases htn : tn = 0
          · subst htn
            go_wp2_with fail
            (with_reducible refine (HKn.out w13 hkc13).mono ?_)
            rintro e w14 ⟨rfl, hk14⟩
            go_wp2_with fail
            go_ret
            exact ⟨rfl, Kp.trans HK10.out (Kp.trans hkc13 hk14)⟩
          · have htn0 : ((tn : Int) == 0) = false := by simp; omega
            have hl0 : 0 < ls.length := by have := Hll.out; omega
            obtain ⟨b, off, tp, tpn, td, rfl, hl1, hl2, hl3, hl4⟩ := HP.out.il.2.2 0 hl0
            obtain ⟨gt, gl, qa, qc, hts0, u1, u2, u3, u4, u5, u6, u7⟩ := HU10.out.at 0 hl0
            simp only at u1 u2
            subst u1
            have Hln := Lib.hid hl3.1
            replace hl2 := hkc13.cell hl2
            have Hls := Lib.hid (List.getElem?_eq_getElem hl0)
            generalize ls[0]'hl0 = u at *
            rw [Hln.out] at hts0 u3
            rw [show off + 0 * 2 + 1 = off + 1 by omega] at hl2
            by_cases h2 : tpn < 2
            · go_wp2_with fail
              (with_reducible refine (HKn.out w13 hkc13).mono ?_)
              rintro e w14 ⟨rfl, hk14⟩
              go_wp2_with fail
              go_ret
              exact ⟨rfl, Kp.trans HK10.out (Kp.trans hkc13 hk14)⟩
            · go_upto_region 18 with fail
              have hOt := HU10.out.ot 0 _ u hts0 Hls.out
              obtain ⟨g, _, eg, hgT, _, _⟩ := hOt.block (by simp)
              simp only at eg
              subst eg
              have hu1 : 1 < u.2.length := by have := Hln.out; omega
              have hx1 : w13.cell? ⟨g, 1, none⟩ = some (iv u.2[1]) := hkc13.cell (by
                rw [hOt.cell 1 (by simp only; omega), List.getElem?_map, roomL_lt _ hu1]; rfl)
              have hx2 : wc.frozen? ⟨g, 1, none⟩ = false := hOt.free 1
              have hgl : g < wc.heap.size := (hOt.lt g (by simp [blk])).2
              have hx3 : w13.frozen? ⟨g, 1, none⟩ = false := (Fr.of_kp hkc13).free (p := ⟨g, 1, none⟩) (u := iv u.2[1]) (by
                rw [hOt.cell 1 (by simp only; omega), List.getElem?_map, roomL_lt _ hu1]; rfl) hx2 (by simp)
              have hu3 := hkc13.cell u3
              have hT7 : w13.cell? ⟨T, 7, none⟩ = some (.slice (some ⟨gt, 0, none⟩) tn tc) := hkc13.cell (HT10.out.cell 7 _ rfl)
              clear u2 u3 u4 u5 u6 u7 hl1 hl2 hl3 hl4 y3 htn0 hOt hx2
              obtain ⟨v, hv⟩ : ∃ v, v = u.2[1] := ⟨_, rfl⟩
              rw [← hv] at hx1
              have Hv := Lib.hid hv
              clear hv
              obtain ⟨N, hN⟩ : ∃ N, N = tpn + 9 := ⟨_, rfl⟩
              rw [← hN] at hu3 hts0
              have hN1 : 1 < N := by omega
              have HN := Lib.hid hN
              have Hts := Lib.hid hts0
              have htn1 : 0 < tn := by omega
              clear hN hts0
              obtain ⟨w14, hw14⟩ : ∃ w14, w14 = w13.drew := ⟨_, rfl⟩
              have hkd : Kp w13 w14 := hw14 ▸ (⟨rfl, rfl, rfl, Nat.le_refl _, fun _ _ => rfl⟩ : Kp w13 w13.drew)
              have Hw14 := Lib.hid hw14
              clear hw14
              have hx4 := (Fr.of_kp hkd).free hx1 hx3 (by simp)
              replace hx1 := hkd.cell hx1
              replace hu3 := hkd.cell hu3
              replace hT7 := hkd.cell hT7
              have hkc14 := Kp.trans hkc13 hkd
              have HKd := Lib.hid hkd
              clear hx3 hkd hkc13
              refine region_tailq 17 (by kernel_rfl) (by kernel_rfl) ?_
              rw [← Hw14.out]
              simp only [List.take_succ_cons, List.take_zero, List.drop_succ_cons, List.drop_zero]
              repeat (go_big_quiet_step (fail))
              refine wpQuiet_nil ?_
              go_upto_region 19 with fail
              change Code.wp _ _ _ _ (w14.setCell ⟨g, 1, none⟩ (iv (wrap64 (3 + v.tmod 4))))
              generalize wrap64 (3 + v.tmod 4) = x at *
              have hS15 := Fr.set w14 ⟨g, 1, none⟩ (iv x)
              have hU15 := (HU10.out.kp hkc14).poke x Hts.out Hls.out hu1
              rw [← lnc_set _ (u.2.set 1 x) Hls.out] at hU15
              have HL' := Lib.hid (show (ls.set 0 (u.1, u.2.set 1 x)).length = tn ∧ ∀ l ∈ ls.set 0 (u.1, u.2.set 1 x), l.2.length ≤ 200 from ⟨by rw [List.length_set]; exact Hll.out, fun l hl => by
                rcases List.mem_or_eq_of_mem_set hl with h | h
                · exact Hsh.out.2.2.2 l h
                · rw [h]; simp only [List.length_set]; exact Hsh.out.2.2.2 u (List.mem_of_getElem? Hls.out)⟩)
              have HE' := Lib.hid (show ∀ (j : Nat) (h : j < ls.length) (h' : j < (ls.set 0 (u.1, u.2.set 1 x)).length), (ls.set 0 (u.1, u.2.set 1 x))[j].1 = ls[j].1 ∧ (ls.set 0 (u.1, u.2.set 1 x))[j].2.length = ls[j].2.length from fun j h h' => by
                rcases j with _ | j
                · have e := Hls.out
                  rw [List.getElem?_eq_getElem h] at e
                  have e := Option.some.inj e
                  rw [List.getElem_set_self, e]
                  simp
                · rw [List.getElem_set_ne (by omega)]; exact ⟨rfl, rfl⟩)
              have hgT2 : T < g := by omega
              have HK15 := Lib.hid (((Fr.of_kp (Kp.trans HK10.out hkc14)).step hS15 (fun y hy => .inr (by simp only [List.mem_singleton] at hy; have := Hk.out.size; omega))).kp)
              have HB15 := Lib.hid ((HB10.out.kp hkc14).fr hS15 (by simp; omega))
              have HT15 := Lib.hid ((HT10.out.kp hkc14).fr hS15 (by simp; omega))
              have HG3 := Lib.hid (show Grs (w14.setCell ⟨g, 1, none⟩ (iv x)) ha hn go from ⟨HG1.out.1.1, HG1.out.1.2.1, hS15.cs (HKd.out.cs HG1.out.1.2.2) (fun y hy hq => by simp only [List.mem_singleton] at hq; have := HG1.out.2 y hy; omega)⟩)
              have HG4 := Lib.hid (show Grs (w14.setCell ⟨g, 1, none⟩ (iv x)) ia jn go from ⟨HG2.out.1.1, HG2.out.1.2.1, hS15.cs (HKd.out.cs HG2.out.1.2.2) (fun y hy hq => by simp only [List.mem_singleton] at hq; have := HG2.out.2 y hy; omega)⟩)
              have HU15 := Lib.hid hU15
              clear hU15 hS15 hkc14 hx1 hu3 hT7 hx4 HG1 HG2 HU10 HT10 HB10 HV HP HKn HKd Hw14
              generalize w14.setCell ⟨g, 1, none⟩ (iv x) = w15 at *
              generalize ls.set 0 (u.1, u.2.set 1 x) = lz at *
              have HP := Lib.hid (HP0.out.kp HK15.out)
              have HV := Lib.hid (HV0.out.keep HK15.out)
              have HKn := Lib.hid (fun w' (h : Kp w15 w') => knownG_any w' E mx (HV.out.keep h))
              have hNb : Tc (w15.alloc (.cells #[.string nm, .slice a0 n0 c0, .slice a1 n1 c1, .slice (some ⟨b, off, none⟩) tn cl] 26)) w15.heap.size [.string nm, .slice a0 n0 c0, .slice a1 n1 c1, .slice (some ⟨b, off, none⟩) tn cl] := Tc.new w15 [.string nm, .slice a0 n0 c0, .slice a1 n1 c1, .slice (some ⟨b, off, none⟩) tn cl] 26
              have hkN := Kp.new w15 (.cells #[.string nm, .slice a0 n0 c0, .slice a1 n1 c1, .slice (some ⟨b, off, none⟩) tn cl] 26)
              obtain ⟨y0, y1, y2, y3⟩ := HB15.out
              go_upto_region 20 with fail
              change Code.wp _ _ _ _ (w15.alloc (.cells #[.string nm, .slice a0 n0 c0, .slice a1 n1 c1, .slice (some ⟨b, off, none⟩) tn cl] 26))
              have hX0 : Nx w15 (w15.alloc (.cells #[.string nm, .slice a0 n0 c0, .slice a1 n1 c1, .slice (some ⟨b, off, none⟩) tn cl] 26)) w15.heap.size _ none 0 0 [] := ⟨hkN, hNb, Own.nil _ _ _ _, Nat.le_refl _⟩
              clear hNb hkN y0 y1 y2 y3
              have HS15 := Lib.hid (show bx < w15.heap.size from HB15.out.lt)
              generalize w15.alloc (.cells #[.string nm, .slice a0 n0 c0, .slice a1 n1 c1, .slice (some ⟨b, off, none⟩) tn cl] 26) = w16 at *
              obtain ⟨nb, hnb⟩ : ∃ nb, nb = w15.heap.size := ⟨_, rfl⟩
              rw [← hnb] at hX0 ⊢
              have Hnb := Lib.hid hnb
              clear hnb
              have yc := hX0.tc.cell 3 _ rfl
              have yf := hX0.tc.free 3 _ rfl
              have HX1 := Lib.hid (show Nx w15 (w16.setCell ⟨nb, 3, none⟩ (.slice none 0 0)) nb [.string nm, .slice a0 n0 c0, .slice a1 n1 c1, .slice none 0 0] none 0 0 (lnc (lz.take 0) ((ts.map cutT).take 0)) from hX0.set 3 (by simp) (.slice none 0 0))
              clear hX0
              go_wp2_with fail
              clear yc yf
              generalize w16.setCell ⟨nb, 3, none⟩ (.slice none 0 0) = w17 at *
              have htn2 : tn ≤ 200 := Hsh.out.2.2.1
              obtain ⟨w170, hw170⟩ : ∃ w170 : World, w170 = w17 := ⟨_, rfl⟩
              go_loopw [15] (fun i wv => ∃ (k : Nat) (na : Option Addr) (nc : Nat), k ≤ tn ∧ i = .int .i64 (k : Nat) ∧ Nx w15 wv nb [.string nm, .slice a0 n0 c0, .slice a1 n1 c1, .slice na k nc] na k nc (lnc (lz.take k) ((ts.map cutT).take k))) (fun i _ => tn - (intOf i).toNat)
              case atStart => exact ⟨0, none, 0, by omega, rfl, HX1.out⟩
              case round =>
                clear HX1 hw170
                obtain ⟨k, na, nc, hk, rfl, hX⟩ := hrel
                rename World => wv
                have y3 := hX.kp.cell HB15.out.2.2.2
                by_cases hkn : k < tn
                · have hkl : k < ls.length := by have := Hll.out; omega
                  have hkz : k < lz.length := by have := HL'.out.1; omega
                  obtain ⟨gt', gl', ra, rc, e0', e1', _, d1, _, _, _, d7⟩ := HU15.out.at k hkz
                  simp only [Option.some.injEq, Addr.mk.injEq, and_true] at e1'
                  subst e1'
                  obtain ⟨b', off', tp2, tk, td2, eb, hl1, hl2, hl3, _⟩ := HP.out.il.2.2 k hkl
                  simp only [Option.some.injEq, Addr.mk.injEq, and_true] at eb
                  obtain ⟨rfl, rfl⟩ := eb
                  obtain ⟨he1, he2⟩ := HE'.out k hkl hkz
                  have htk : tk ≤ 200 := by
                    have h1 := Hsh.out.2.2.2 _ (List.getElem_mem hkl)
                    have h2 := hl3.1
                    omega
                  have hltk : lz[k].2.length = tk := by rw [he2]; exact hl3.1
                  rw [hltk] at d1 d7 e0'
                  have Hlz := Lib.hid (take_step lz k hkz)
                  have Htz := Lib.hid (show (ts.map cutT).take (k + 1) = (ts.map cutT).take k ++ [(⟨ra, tk, rc⟩ : Tv)] by
                    have hkt : k < (ts.map cutT).length := by rw [List.length_map]; exact (List.getElem?_eq_some_iff.1 e0').1
                    rw [take_step _ k hkt]
                    congr 2
                    rw [List.getElem_map]
                    have e := e0'
                    rw [List.getElem?_eq_getElem (by rw [List.length_map] at hkt; exact hkt)] at e
                    rw [Option.some.inj e]
                    simp [cutT])
                  rw [← he1] at hl1
                  obtain ⟨M, hM⟩ : ∃ M, M = tk + 9 := ⟨_, rfl⟩
                  rw [← hM] at d1 d7
                  have hMk : tk ≤ rc := by omega
                  have hM0 : rc ≠ 0 := by omega
                  have HM := Lib.hid hM
                  clear hM d7 e0' he1 he2 hl3 hltk
                  have Hlen := Lib.hid (show (lz.take k).length = ((ts.map cutT).take k).length by
                    rw [List.length_take, List.length_take, List.length_map, HU15.out.len])
                  obtain ⟨f, hf⟩ : ∃ f, f = lz[k].1 := ⟨_, rfl⟩
                  rw [← hf] at hl1
                  have Hf := Lib.hid hf
                  clear hf
                  have Hd1 := Lib.hid d1
                  have Hl1 := Lib.hid hl1
                  have Hl2 := Lib.hid hl2
                  have Hd2 := Lib.hid (show w15.cell? ⟨T, 7, none⟩ = some (.slice (some ⟨gt, 0, none⟩) tn tc) from HT15.out.cell 7 _ rfl)
                  replace d1 := hX.kp.cell d1
                  replace hl1 := hX.kp.cell hl1
                  replace hl2 := hX.kp.cell hl2
                  have d2 := hX.kp.cell Hd2.out
                  have hlz2 : lnc (lz.take (k + 1)) ((ts.map cutT).take (k + 1)) = lnc (lz.take k) ((ts.map cutT).take k) ++ [iv f, .slice ra tk rc] := by
                    rw [Hlz.out, Htz.out, lnc_append _ _ Hlen.out.symm, Hf.out]; rfl
                  have d3 := hX.tc.cell 3 _ rfl
                  have hkb : (k + 1) * 32 ≤ 140737488355328 := by omega
                  go_upto_region 24 with fail
                  refine anyP_start (Cl6 nb bx T b (off + k * 2) gt k (.slice na k nc) (.slice (some ⟨b, off, none⟩) tn cl) (.slice (some ⟨gt, 0, none⟩) tn tc) f (.slice tp2 tk td2) (.slice ra M rc)) 27 (fun _ => True) (fun _ _ => False) (by kernel_rfl) (fun _ _ _ _ h => h.elim) ?_
                  obtain ⟨wd, hwd⟩ : ∃ wd, wd = wv.drew := ⟨_, rfl⟩
                  have hkd : Kp wv wd := hwd ▸ (⟨rfl, rfl, rfl, Nat.le_refl _, fun _ _ => rfl⟩ : Kp wv wv.drew)
                  rw [← hwd]
                  clear hwd
                  have hq : Cl6 nb bx T b (off + k * 2) gt k (.slice na k nc) (.slice (some ⟨b, off, none⟩) tn cl) (.slice (some ⟨gt, 0, none⟩) tn tc) f (.slice tp2 tk td2) (.slice ra M rc) wd := ⟨hkd.cell d3, hkd.cell y3, hkd.cell d2, hkd.cell hl1, hkd.cell hl2, hkd.cell d1⟩
                  have hXd := hX.keep hkd
                  clear d1 d2 d3 hl1 hl2 y3 hX hkd
                  refine anyP_take puts_true [0, 2, 4, 8, 9, 10, 12, 15, 17] (by kernel_rfl) hq ?_
                  simp only [opsAt, List.getElem?_toArray, List.getElem?_cons_zero, List.getElem?_cons_succ]
                  repeat (go_big_quiet_step (fail))
                  refine wpQuiet_nil ?_
                  refine anyP_load puts_true 1 139 (.slice na k nc) rfl rfl (by kernel_rfl) hq (fun w h => exec_load24 h.nx rfl rfl) ?_
                  simp only [Act.put, List.setIfInBounds_toArray, List.set_cons_zero, List.set_cons_succ]
                  refine anyP_load puts_true 3 141 (.slice (some ⟨b, off, none⟩) tn cl) rfl rfl (by kernel_rfl) hq (fun w h => exec_load24 h.p rfl rfl) ?_
                  simp only [Act.put, List.setIfInBounds_toArray, List.set_cons_zero, List.set_cons_succ]
                  refine anyP_load puts_true 11 149 (.slice (some ⟨gt, 0, none⟩) tn tc) rfl rfl (by kernel_rfl) hq (fun w h => exec_load35 h.t rfl rfl) ?_
                  simp only [Act.put, List.setIfInBounds_toArray, List.set_cons_zero, List.set_cons_succ]
                  refine anyP_load puts_true 16 154 (.slice (some ⟨b, off, none⟩) tn cl) rfl rfl (by kernel_rfl) hq (fun w h => exec_load24 h.p rfl rfl) ?_
                  simp only [Act.put, List.setIfInBounds_toArray, List.set_cons_zero, List.set_cons_succ]
                  refine anyP_take puts_true [5, 6, 13, 18, 19] (by kernel_rfl) hq ?_
                  simp only [opsAt, List.getElem?_toArray, List.getElem?_cons_zero, List.getElem?_cons_succ]
                  repeat (go_big_quiet_step (fail))
                  refine wpQuiet_nil ?_
                  refine anyP_load puts_true 7 145 (iv f) rfl rfl (by kernel_rfl) hq (fun w h => exec_load3 h.c0 rfl rfl) ?_
                  simp only [Act.put, List.setIfInBounds_toArray, List.set_cons_zero, List.set_cons_succ]
                  refine anyP_load puts_true 14 152 (.slice ra M rc) rfl rfl (by kernel_rfl) hq (fun w h => exec_load22 h.r rfl rfl) ?_
                  simp only [Act.put, List.setIfInBounds_toArray, List.set_cons_zero, List.set_cons_succ]
                  refine anyP_load puts_true 20 158 (.slice tp2 tk td2) rfl rfl (by kernel_rfl) hq (fun w h => exec_load22 h.c1 rfl rfl) ?_
                  simp only [Act.put, List.setIfInBounds_toArray, List.set_cons_zero, List.set_cons_succ]
                  refine anyP_take puts_true [21, 22, 23] (by kernel_rfl) hq ?_
                  simp only [opsAt, List.getElem?_toArray, List.getElem?_cons_zero, List.getElem?_cons_succ]
                  repeat (go_big_quiet_step (fail))
                  refine wpQuiet_nil ?_
                  have hk10 := Kp.new wd (.cells #[iv f, .slice ra tk rc] 43)
                  have Hqa := Lib.hid (hq.kp hk10)
                  have hTd : nb + 1 ≤ (wd.alloc (.cells #[iv f, .slice ra tk rc] 43)).heap.size := by have := hXd.tc.lt; have := hk10.size; omega
                  clear hq
                  refine anyP_one 24 (by kernel_rfl) ?_
                  simp only [opsAt, List.getElem?_toArray, List.getElem?_cons_zero, List.getElem?_cons_succ]
                  go_wp2_with fail
                  refine ⟨fun _ => Hqa.out, ?_⟩
                  refine anyP_one 25 (by kernel_rfl) ?_
                  simp only [opsAt, List.getElem?_toArray, List.getElem?_cons_zero, List.getElem?_cons_succ]
                  go_wp2_with (at_builtin; go_loud (refine wpList_app rfl (.tmp 139) (.tmp 162) 24 rfl el24 (nb + 1) rfl (hXd.keep hk10).own rfl [iv f, .slice ra tk rc] rfl (Cs.new wd [iv f, .slice ra tk rc] 43 (0, 0)) (by simp [Value.oneCell']) (k + 1) rfl (lnc (lz.take (k + 1)) ((ts.map cutT).take (k + 1))) hlz2 hkb hTd ?_); intro xa2 xc2 w11 hb)
                  have hX11 := hXd.app hb
                  have Hqb := Lib.hid (show Cl6 nb bx T b (off + k * 2) gt k (.slice na k nc) (.slice (some ⟨b, off, none⟩) tn cl) (.slice (some ⟨gt, 0, none⟩) tn tc) f (.slice tp2 tk td2) (.slice ra M rc) w11 from ⟨hX11.tc.cell 3 _ rfl, hX11.kp.cell HB15.out.2.2.2, hX11.kp.cell Hd2.out, hX11.kp.cell Hl1.out, hX11.kp.cell Hl2.out, hX11.kp.cell Hd1.out⟩)
                  refine ⟨fun _ => Hqb.out, ?_⟩
                  refine anyP_one 26 (by kernel_rfl) ?_
                  simp only [opsAt, List.getElem?_toArray, List.getElem?_cons_zero, List.getElem?_cons_succ]
                  go_wp2_with fail
                  refine ⟨fun _ => Hqb.out, ?_⟩
                  have hm11 := hX11.tc.cell 3 _ rfl
                  have hf11 := hX11.tc.free 3 _ rfl
                  refine anyP_one 27 (by kernel_rfl) ?_
                  simp only [opsAt, List.getElem?_toArray, List.getElem?_cons_zero, List.getElem?_cons_succ]
                  go_wp2_with fail
                  refine ⟨fun h => absurd rfl h, ?_⟩
                  refine anyP_end (by kernel_rfl) ?_
                  have Hfin := Lib.hid (show Nx w15 (w11.setCell ⟨nb, 3, none⟩ (.slice xa2 (k + 1) xc2)) nb [.string nm, .slice a0 n0 c0, .slice a1 n1 c1, .slice xa2 (k + 1) xc2] xa2 (k + 1) xc2 (lnc (lz.take (k + 1)) ((ts.map cutT).take (k + 1))) from hX11.set 3 (by simp) (.slice xa2 (k + 1) xc2))
                  clear hX11 hXd hm11 hf11 hb Hqa Hqb
                  go_wp2_with fail
                  go_roundw
                  case rel => exact ⟨k + 1, xa2, xc2, by omega, by go_num, Hfin.out⟩
                  case measure => simp [intOf]; omega
                · obtain rfl : k = tn := by omega
                  have hz : lz.take k = lz := List.take_of_length_le (by have := HL'.out.1; omega)
                  have hzt : (ts.map cutT).take k = ts.map cutT := List.take_of_length_le (by rw [List.length_map, HU15.out.len]; have := HL'.out.1; omega)
                  rw [hz, hzt] at hX
                  have hzl := HL'.out.1
                  have hi0 := HP.out.i0.1
                  have hi1 := HP.out.i1.1
                  have hcsT : Cs w15 xa (lnc lz (ts.map cutT) ++ marks2) := HU15.out.ol.cs
                  have hPT := HU15.out.patI hcsT (by omega) (fun l hl => by have := HL'.out.2 l hl; omega)
                  simp only at hPT
                  rw [hi0, hi1, hzl] at hPT
                  have hLn := (HU15.out.kp hX.kp).lns (al := na) (xs := []) (by rw [List.append_nil]; exact hX.own.cs) (by omega) (fun l hl => by have := HL'.out.2 l hl; omega)
                  rw [hzl] at hLn
                  have hPN : PatI wv a0 a1 na n0 n1 k b0 b1 lz := ⟨hX.kp.is HP.out.i0, hX.kp.is HP.out.i1, hLn⟩
                  have HLv := Lib.hid (levels_all (HV.out.keep hX.kp) (hPT.kp hX.kp) (by omega) nm rc0 rc1 xc more)
                  have HRf := Lib.hid (fun w' (h : Kp wv w') => ref_all (hPN.kp h) (by omega) nm c0 c1 nc more)
                  have HCd := Lib.hid (fun w' (h : Kp w15 w') => code_any w' E (HV.out.keep h).ex (codeL b0 b1 lz more) (codeL_mem b0 b1 lz more))
                  generalize codeL b0 b1 lz more = cz at HLv HRf HCd
                  generalize gsL b0 b1 lz more = gz at HLv HRf
                  have t0 : wv.cell? ⟨T, 0, none⟩ = some (.string nm) := hX.kp.cell (HT15.out.cell 0 _ rfl)
                  have t1 : wv.cell? ⟨T, 1, none⟩ = some (.slice ra0 n0 rc0) := by rw [← hi0]; exact hX.kp.cell (HT15.out.cell 1 _ rfl)
                  have t2 : wv.cell? ⟨T, 2, none⟩ = some (.slice ra1 n1 rc1) := by rw [← hi1]; exact hX.kp.cell (HT15.out.cell 2 _ rfl)
                  have t3 : wv.cell? ⟨T, 3, none⟩ = some (.slice xa k xc) := by rw [← Hll.out]; exact hX.kp.cell (HT15.out.cell 3 _ rfl)
                  have HX := Lib.hid hX
                  clear hX hLn hPN hPT hcsT hz hzt hzl hi0 hi1
                  go_wp2_with fail
                  (with_reducible refine HLv.out.mono ?_)
                  rintro e w20 ⟨hk20, pa, pn, pc, rfl, hG20⟩
                  clear t0 t1 t2 t3 HLv y3
                  have hX20 := HX.out.keep hk20
                  have v0 := hX20.tc.cell 0 _ rfl
                  have v1 := hX20.tc.cell 1 _ rfl
                  have v2 := hX20.tc.cell 2 _ rfl
                  have v3 := hX20.tc.cell 3 _ rfl
                  go_wp2_with fail
                  (with_reducible refine (HRf.out w20 hk20).mono ?_)
                  rintro e w21 ⟨hk21, sa, sn, sc, rfl, hG21⟩
                  clear v0 v1 v2 v3 HRf
                  have hk15 := Kp.trans hX20.kp hk21
                  go_wp2_with fail
                  (with_reducible refine (HCd.out w21 hk15).mono ?_)
                  rintro e _ ⟨rfl, rfl⟩
                  have hcc : ((cz : Int) == (cz : Int)) = true := by simp
                  go_wp2_with fail
                  (with_reducible refine (HGs.out w21 _ _ _ _ _ _ gz (hk21.grs hG20.grs) hG21.grs).mono ?_)
                  rintro e w22 ⟨rfl, hk22⟩
                  have hk16 := Kp.trans hk15 hk22
                  go_wp2_with fail
                  (with_reducible refine (HGs.out w22 _ _ _ _ _ _ go (hk16.grs HG3.out) (hk16.grs HG4.out)).mono ?_)
                  rintro e w23 ⟨rfl, hk23⟩
                  have hk17 := Kp.trans hk16 hk23
                  go_wp2_with fail
                  (with_reducible refine (HKn.out w23 hk17).mono ?_)
                  rintro e w24 ⟨rfl, hk24⟩
                  go_wp2_with fail
                  go_ret
                  exact ⟨rfl, Kp.trans HK15.out (Kp.trans hk17 hk24)⟩
end Go.Proofs.YtjbjgpcldcpjmaaDoor
