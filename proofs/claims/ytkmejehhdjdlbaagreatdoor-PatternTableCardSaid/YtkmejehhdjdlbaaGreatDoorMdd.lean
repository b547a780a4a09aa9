/- What the law asks of each of the table's patterns with modifiers. Conditions: the variables lie there (Env); the pattern lies there. -/
import Derived.Test.YtkmejehhdjdlbaaGreatDoorMddT
namespace Go.Proofs.YtkmejehhdjdlbaaGreatDoor
open Go.RowKit

set_option maxRecDepth 100000 in
set_option maxHeartbeats 16000000 in
theorem modified_any (w : World) (E : Nat → Addr) (m : Int) (hE : Env w E m) (nm : ByteArray) (a0 a1 al : Option Addr) (n0 c0 n1 c1 nl cl : Nat) (b0 b1 : List Int) (ls : List Ln) (fl : Bool) (hy : rowMd (nm.data.toList, (b0, b1), ls, fl) = true) (hP : PatI w a0 a1 al n0 n1 nl b0 b1 ls) :
    Calls Tryz.prog 41 #[patV nm a0 a1 al n0 c0 n1 c1 nl cl] w fun e w' => e = .returned (.bool true) ∧ Kp w w' := by
  have hk1 := Kp.new w (.cells #[.string nm, .slice a0 n0 c0, .slice a1 n1 c1, .slice al nl cl] 26)
  have hF1 := Four.new w (.string nm) (.slice a0 n0 c0) (.slice a1 n1 c1) (.slice al nl cl) 26
  have hP1 := hP.kp hk1
  have Hk1 := Lib.hid hk1
  have HE := Lib.hid (hE.keep hk1)
  have hnl := hP.il.1
  have Hnl := Lib.hid hnl
  clear hE hP hk1 hnl
  go_enter Tryz.func41, Tryz.ntmps41
  go_upto_region 1 with fail
  obtain ⟨bx, hbx⟩ : ∃ bx, bx = w.heap.size := ⟨_, rfl⟩
  rw [← hbx] at hF1 ⊢
  generalize w.alloc (.cells #[.string nm, .slice a0 n0 c0, .slice a1 n1 c1, .slice al nl cl] 26) = w1 at *
  clear hbx
  have hk2 := Kp.new w1 (.cells #[.string ⟨#[112, 115, 107, 48]⟩, .string ⟨#[112, 115, 107, 49]⟩, .string ⟨#[112, 115, 107, 50]⟩, .string ⟨#[112, 115, 107, 51]⟩, .string ⟨#[112, 115, 107, 52]⟩, .string ⟨#[112, 115, 107, 53]⟩] 9)
  have hW := Six.new w1
  have HF := Lib.hid (hF1.kp hk2)
  have HP := Lib.hid (hP1.kp hk2)
  have HE2 := Lib.hid (HE.out.keep hk2)
  have Hk2 := Lib.hid (Kp.trans Hk1.out hk2)
  clear hF1 hP1 hk2 HE
  go_upto_region 2 with fail
  obtain ⟨gw, hgw⟩ : ∃ gw, gw = w1.heap.size := ⟨_, rfl⟩
  rw [← hgw] at hW ⊢
  clear hgw
  generalize w1.alloc (.cells #[.string ⟨#[112, 115, 107, 48]⟩, .string ⟨#[112, 115, 107, 49]⟩, .string ⟨#[112, 115, 107, 50]⟩, .string ⟨#[112, 115, 107, 51]⟩, .string ⟨#[112, 115, 107, 52]⟩, .string ⟨#[112, 115, 107, 53]⟩] 9) = w2 at *
  have HW := Lib.hid hW
  clear hW
  have hmd := hy
  unfold rowMd at hmd
  simp only [Bool.and_eq_true, decide_eq_true_eq, beq_iff_eq, List.all_eq_true] at hmd
  obtain ⟨⟨⟨⟨⟨hn5, hnm9⟩, hpsk⟩, hall⟩, hfall⟩, hck⟩ := hmd
  have hn5b : nl ≤ 5 := by rw [← Hnl.out]; exact hn5
  have hcd := code0 hck
  have hpos : 0 < nl := by rw [← Hnl.out]; exact List.length_pos_iff.2 hcd.2.2.1
  have hsh : ShortP nm n0 n1 nl ls := ⟨by have : nm.size = nm.data.toList.length := Lib.size_eq nm; omega, by rw [← HP.out.i0.1]; rcases Q.okB_cases hcd.1 with q | q | q | q <;> rw [q] <;> decide, by rw [← HP.out.i1.1]; rcases Q.okB_cases hcd.2.1 with q | q | q | q <;> rw [q] <;> decide, by omega, fun l hl => by have := (hcd.2.2.2.2 l hl).2.2.1; omega⟩
  have Hsh := Lib.hid hsh
  have Hnm := Lib.hid (show nm.size ≤ 9 by have : nm.size = nm.data.toList.length := Lib.size_eq nm; omega)
  have Hpsk := Lib.hid hpsk
  have Hall := Lib.hid hall
  have Hfall := Lib.hid hfall
  have Hcd := Lib.hid hcd
  have Hck := Lib.hid hck
  clear hy hn5 hnm9 hpsk hall hfall hck hcd hsh
  obtain ⟨y0, y1, y2, y3, _, _, _, _⟩ := HF.out
  go_wp2_with fail
  go_loopw [5] (fun i wr => ∃ j : Nat, j ≤ 6 ∧ i = .int .i64 (j : Nat) ∧ Kp w2 wr) (fun i _ => 6 - (intOf i).toNat)
  case atStart => exact ⟨0, by omega, rfl, Kp.refl _⟩
  case round =>
    clear y0 y1 y2 y3
    obtain ⟨j, hj, rfl, hkr⟩ := hrel
    rename World => wr
    by_cases hj6 : j < 6
    · have HKr := Lib.hid hkr
      have hFr := HF.out.kp hkr
      have hWr := HW.out.kp hkr
      clear hkr
      go_upto_region 6 with fail
      go_cut [6, 7] (fun v6 v7 wc => MdEnd wr E (mdf ⟨nm.data.toList, b0, b1, ls⟩ [pskW j]) v6 v7 wc)
      case first =>
        refine anyH_start (fun v => Four v bx (.string nm) (.slice a0 n0 c0) (.slice a1 n1 c1) (.slice al nl cl) ∧ Six v gw) (by kernel_rfl) ?_
        obtain ⟨wd, hwd⟩ : ∃ wd, wd = wr.drew := ⟨_, rfl⟩
        have hkd : Kp wr wd := hwd ▸ (⟨rfl, rfl, rfl, Nat.le_refl _, fun _ _ => rfl⟩ : Kp wr wr.drew)
        rw [← hwd]
        clear hwd
        have hq := And.intro (hFr.kp hkd) (hWr.kp hkd)
        clear hFr hWr
        refine anyH_take [1, 2, 3] (by kernel_rfl) hq ?_
        simp only [opsAt, List.getElem?_toArray, List.getElem?_cons_zero, List.getElem?_cons_succ]
        repeat (go_big_quiet_step (fail))
        refine wpQuiet_nil ?_
        refine anyH_load 0 25 (patV nm a0 a1 al n0 c0 n1 c1 nl cl) rfl rfl (by kernel_rfl) hq (fun w h => exec_load26 h.1 rfl rfl) ?_
        simp only [Act.put, List.setIfInBounds_toArray, List.set_cons_zero, List.set_cons_succ]
        refine anyH_load 4 29 (.string (bs (pskW j))) rfl rfl (by kernel_rfl) hq (fun w h => exec_ld9 (h.2 j hj6) rfl rfl) ?_
        simp only [Act.put, List.setIfInBounds_toArray, List.set_cons_zero, List.set_cons_succ]
        refine anyH_two 5 10 (by kernel_rfl) ?_ ?_
        · simp only [opsAt, List.getElem?_toArray, List.getElem?_cons_zero, List.getElem?_cons_succ]
          have hkb := Kp.new wd (.cells #[.string (bs (pskW j))] 9)
          have hs := One1.new wd (.string (bs (pskW j))) 9
          have hkV := Kp.trans hkd hkb
          replace hq := And.intro (hq.1.kp hkb) (hq.2.kp hkb)
          go_wp2_with fail
          generalize wd.alloc (.cells #[.string (bs (pskW j))] 9) = w3 at *
          generalize wd.heap.size = gs at *
          refine anyH_two 6 10 (by kernel_rfl) ?_ ?_
          · simp only [opsAt, List.getElem?_toArray, List.getElem?_cons_zero, List.getElem?_cons_succ]
            have HC := Lib.hid (one_word w3 E m (HE2.out.keep (Kp.trans HKr.out hkV)) nm a0 a1 al n0 c0 n1 c1 nl cl b0 b1 ls (HP.out.kp (Kp.trans HKr.out hkV)) Hsh.out (pskW j) (by simp [pskW]) gs hs.c)
            go_wp2_with fail
            (with_reducible refine HC.out.mono ?_)
            rintro e w4 ⟨hk, t0, t1, tl, rfl, hPX⟩
            unfold tvv
            replace hq := And.intro (hq.1.kp hk) (hq.2.kp hk)
            have hk1w := Kp.trans hkV hk
            have hPv := hPX [] w4 (Fr.refl _ _) (by simp)
            clear hk HC hPX
            go_wp2_with fail
            refine anyH_take [7, 8, 9] (by kernel_rfl) hq ?_
            simp only [opsAt, List.getElem?_toArray, List.getElem?_cons_zero, List.getElem?_cons_succ]
            repeat (go_big_quiet_step (fail))
            refine wpQuiet_nil ?_
            have hZ := Four.new w4 (.string ⟨#[]⟩) (.slice none 0 0) (.slice none 0 0) (.slice none 0 0) 26
            obtain ⟨v9, hv9, hF9, hN⟩ := hZ.set (.string (mdf ⟨nm.data.toList, b0, b1, ls⟩ [pskW j]).1) (.slice t0.ao t0.n t0.c) (.slice t1.ao t1.n t1.c) (.slice tl.ao tl.n tl.c)
            have hkb9 : Kp w4 v9 := ((Fr.of_kp (Kp.new w4 (.cells #[.string ⟨#[]⟩, .slice none 0 0, .slice none 0 0, .slice none 0 0] 26))).step hF9 (fun x hx => .inr (by simp at hx; omega))).kp
            have hPf := hPv.kp hkb9
            have hkf := Kp.trans hk1w hkb9
            have hqs := And.intro (hq.1.kp hkb9) (hq.2.kp hkb9)
            replace hq := And.intro (hq.1.kp (Kp.new w4 (.cells #[.string ⟨#[]⟩, .slice none 0 0, .slice none 0 0, .slice none 0 0] 26))) (hq.2.kp (Kp.new w4 (.cells #[.string ⟨#[]⟩, .slice none 0 0, .slice none 0 0, .slice none 0 0] 26)))
            have hwb := hk1w.size
            clear hkb9 hF9 hPv hk1w
            refine anyH_one 10 (by kernel_rfl) ?_
            simp only [opsAt, List.getElem?_toArray, List.getElem?_cons_zero, List.getElem?_cons_succ]
            go_wp2_with fail
            generalize w4.alloc (.cells #[.string ⟨#[]⟩, .slice none 0 0, .slice none 0 0, .slice none 0 0] 26) = w5 at *
            generalize w4.heap.size = bm at *
            obtain ⟨z0, z1, z2, z3, z4, z5, z6, z7⟩ := hZ
            subst hv9
            refine anyH_one 11 (by kernel_rfl) ?_
            simp only [opsAt, List.getElem?_toArray, List.getElem?_cons_zero, List.getElem?_cons_succ]
            go_wp2_with fail
            refine anyH_one 12 (by kernel_rfl) ?_
            simp only [opsAt, List.getElem?_toArray, List.getElem?_cons_zero, List.getElem?_cons_succ]
            go_wp2_with fail
            refine anyH_end (by kernel_rfl) ?_
            go_wp2_with fail
            go_meet
            case rel => exact ⟨bm, t0, t1, tl, rfl, rfl, ⟨hkf, hwb⟩, hN, hPf⟩
          · simp only [opsAt, List.getElem?_toArray, List.getElem?_cons_zero, List.getElem?_cons_succ]
            have hZ := Four.new w3 (.string ⟨#[]⟩) (.slice none 0 0) (.slice none 0 0) (.slice none 0 0) 26
            have hkn := Kp.new w3 (.cells #[.string ⟨#[]⟩, .slice none 0 0, .slice none 0 0, .slice none 0 0] 26)
            have hlt : w3.heap.size < (w3.alloc (.cells #[.string ⟨#[]⟩, .slice none 0 0, .slice none 0 0, .slice none 0 0] 26)).heap.size := by simp
            have hpb : bx < w3.heap.size := hq.1.lt
            have hgb := six_lt hq.2
            have hwb : wr.heap.size ≤ w3.heap.size := (hkV).size
            replace hq := And.intro (hq.1.kp hkn) (hq.2.kp hkn)
            go_wp2_with fail
            generalize w3.alloc (.cells #[.string ⟨#[]⟩, .slice none 0 0, .slice none 0 0, .slice none 0 0] 26) = w4 at *
            generalize w3.heap.size = bm at *
            have hkW := Kp.trans hkV hkn
            have hs4 := hs.kp hkn
            refine anyH_one 6 (by kernel_rfl) ?_
            simp only [opsAt, List.getElem?_toArray, List.getElem?_cons_zero, List.getElem?_cons_succ]
            have HC := Lib.hid (one_word w4 E m (HE2.out.keep (Kp.trans HKr.out hkW)) nm a0 a1 al n0 c0 n1 c1 nl cl b0 b1 ls (HP.out.kp (Kp.trans HKr.out hkW)) Hsh.out (pskW j) (by simp [pskW]) gs hs4.c)
            go_wp2_with fail
            (with_reducible refine HC.out.mono ?_)
            rintro e w5 ⟨hk, t0, t1, tl, rfl, hPX⟩
            unfold tvv
            replace hq := And.intro (hq.1.kp hk) (hq.2.kp hk)
            replace hZ := hZ.kp hk
            obtain ⟨v9, hv9, hF9, hN⟩ := hZ.set (.string (mdf ⟨nm.data.toList, b0, b1, ls⟩ [pskW j]).1) (.slice t0.ao t0.n t0.c) (.slice t1.ao t1.n t1.c) (.slice tl.ao tl.n tl.c)
            have hPf := hPX [bm] v9 hF9 (by simpa using hlt)
            have hkf : Kp wr v9 := ((Fr.of_kp (Kp.trans hkW hk)).step hF9 (fun x hx => .inr (by simp at hx; omega))).kp
            have hqs := And.intro (hq.1.fr hF9 (by simp; omega)) (six_fr hq.2 hF9 (by simp; omega))
            clear hk HC hPX hF9
            go_wp2_with fail
            refine anyH_take [7, 8, 9] (by kernel_rfl) hq ?_
            simp only [opsAt, List.getElem?_toArray, List.getElem?_cons_zero, List.getElem?_cons_succ]
            repeat (go_big_quiet_step (fail))
            refine wpQuiet_nil ?_
            obtain ⟨z0, z1, z2, z3, z4, z5, z6, z7⟩ := hZ
            subst hv9
            refine anyH_one 11 (by kernel_rfl) ?_
            simp only [opsAt, List.getElem?_toArray, List.getElem?_cons_zero, List.getElem?_cons_succ]
            go_wp2_with fail
            refine anyH_one 12 (by kernel_rfl) ?_
            simp only [opsAt, List.getElem?_toArray, List.getElem?_cons_zero, List.getElem?_cons_succ]
            go_wp2_with fail
            refine anyH_end (by kernel_rfl) ?_
            go_wp2_with fail
            go_meet
            case rel => exact ⟨bm, t0, t1, tl, rfl, rfl, ⟨hkf, hwb⟩, hN, hPf⟩
        · simp only [opsAt, List.getElem?_toArray, List.getElem?_cons_zero, List.getElem?_cons_succ]
          have hZ := Four.new wd (.string ⟨#[]⟩) (.slice none 0 0) (.slice none 0 0) (.slice none 0 0) 26
          have hkn := Kp.new wd (.cells #[.string ⟨#[]⟩, .slice none 0 0, .slice none 0 0, .slice none 0 0] 26)
          have hlt : wd.heap.size < (wd.alloc (.cells #[.string ⟨#[]⟩, .slice none 0 0, .slice none 0 0, .slice none 0 0] 26)).heap.size := by simp
          have hpb : bx < wd.heap.size := hq.1.lt
          have hgb := six_lt hq.2
          have hwb : wr.heap.size ≤ wd.heap.size := (hkd).size
          replace hq := And.intro (hq.1.kp hkn) (hq.2.kp hkn)
          go_wp2_with fail
          generalize wd.alloc (.cells #[.string ⟨#[]⟩, .slice none 0 0, .slice none 0 0, .slice none 0 0] 26) = w3 at *
          generalize wd.heap.size = bm at *
          have hkU := Kp.trans hkd hkn
          refine anyH_one 5 (by kernel_rfl) ?_
          simp only [opsAt, List.getElem?_toArray, List.getElem?_cons_zero, List.getElem?_cons_succ]
          have hlt2 : bm < (w3.alloc (.cells #[.string (bs (pskW j))] 9)).heap.size := by simp; omega
          replace hZ := hZ.kp (Kp.new w3 (.cells #[.string (bs (pskW j))] 9))
          have hkb := Kp.new w3 (.cells #[.string (bs (pskW j))] 9)
          have hs := One1.new w3 (.string (bs (pskW j))) 9
          have hkV := Kp.trans hkU hkb
          replace hq := And.intro (hq.1.kp hkb) (hq.2.kp hkb)
          go_wp2_with fail
          generalize w3.alloc (.cells #[.string (bs (pskW j))] 9) = w4 at *
          generalize w3.heap.size = gs at *
          clear hlt
          have hlt := hlt2
          refine anyH_one 6 (by kernel_rfl) ?_
          simp only [opsAt, List.getElem?_toArray, List.getElem?_cons_zero, List.getElem?_cons_succ]
          have HC := Lib.hid (one_word w4 E m (HE2.out.keep (Kp.trans HKr.out hkV)) nm a0 a1 al n0 c0 n1 c1 nl cl b0 b1 ls (HP.out.kp (Kp.trans HKr.out hkV)) Hsh.out (pskW j) (by simp [pskW]) gs hs.c)
          go_wp2_with fail
          (with_reducible refine HC.out.mono ?_)
          rintro e w5 ⟨hk, t0, t1, tl, rfl, hPX⟩
          unfold tvv
          replace hq := And.intro (hq.1.kp hk) (hq.2.kp hk)
          replace hZ := hZ.kp hk
          obtain ⟨v9, hv9, hF9, hN⟩ := hZ.set (.string (mdf ⟨nm.data.toList, b0, b1, ls⟩ [pskW j]).1) (.slice t0.ao t0.n t0.c) (.slice t1.ao t1.n t1.c) (.slice tl.ao tl.n tl.c)
          have hPf := hPX [bm] v9 hF9 (by simpa using hlt)
          have hkf : Kp wr v9 := ((Fr.of_kp (Kp.trans hkV hk)).step hF9 (fun x hx => .inr (by simp at hx; omega))).kp
          have hqs := And.intro (hq.1.fr hF9 (by simp; omega)) (six_fr hq.2 hF9 (by simp; omega))
          clear hk HC hPX hF9
          go_wp2_with fail
          refine anyH_take [7, 8, 9] (by kernel_rfl) hq ?_
          simp only [opsAt, List.getElem?_toArray, List.getElem?_cons_zero, List.getElem?_cons_succ]
          repeat (go_big_quiet_step (fail))
          refine wpQuiet_nil ?_
          obtain ⟨z0, z1, z2, z3, z4, z5, z6, z7⟩ := hZ
          subst hv9
          refine anyH_one 11 (by kernel_rfl) ?_
          simp only [opsAt, List.getElem?_toArray, List.getElem?_cons_zero, List.getElem?_cons_succ]
          go_wp2_with fail
          refine anyH_one 12 (by kernel_rfl) ?_
          simp only [opsAt, List.getElem?_toArray, List.getElem?_cons_zero, List.getElem?_cons_succ]
          go_wp2_with fail
          refine anyH_end (by kernel_rfl) ?_
          go_wp2_with fail
          go_meet
          case rel => exact ⟨bm, t0, t1, tl, rfl, rfl, ⟨hkf, hwb⟩, hN, hPf⟩
      case rest =>
        have hpj := Hpsk.out j (by simpa using hj6)
        unfold pnOf at hpj
        simp only at hpj
        by_cases hjn : j ≤ nl
        · obtain ⟨d0, d1, dl, hmd, hY⟩ := psk_yes hpj (by show j ≤ ls.length; rw [Hnl.out]; exact hjn)
          rw [hmd] at hcut
          have HY := Lib.hid hY
          clear hmd hY hpj
          obtain ⟨bm, t0, t1, tl, rfl, rfl, ⟨hkc, _⟩, hFm, hPm⟩ := hcut
          unfold tvv at hFm
          simp only at hFm hPm
          have HKc := Lib.hid (Kp.trans HKr.out hkc)
          have HFm := Lib.hid hFm
          have HPm := Lib.hid hPm
          rw [errV_nil]
          clear hkc hFm hPm
          have hjI : ((j : Nat) : Int) ≤ (nl : Nat) := by omega
          have hjL : ¬ ((nl : Nat) : Int) < (j : Nat) := by omega
          obtain ⟨x0, x1, x2, x3, _, _, _, _⟩ := HFm.out
          obtain ⟨y0, y1, y2, y3, _, _, _, _⟩ := HF.out.kp HKc.out
          have hwj := HW.out.kp HKc.out j hj6
          go_upto_region 10 with fail
          clear x0 x1 x2 x3 y0 y1 y2 y3 hwj
          have hbn : bs (nm.data.toList ++ pskW j) = nm ++ bs (pskW j) := by rw [bs_append, bs_data]
          have htl : tl.n = nl := by have h1 := HPm.out.il.1; have h2 := HY.out.len; simp only at h2; rw [← h1, h2, Hnl.out]
          have Htl := Lib.hid htl
          clear htl
          have hFm := HFm.out
          rw [hbn] at hFm
          clear hbn
          have HFm2 := Lib.hid hFm
          go_cut [74] (fun v wv => v = .bool false ∧ Kp wc wv)
          case first =>
            refine anyH_start (fun v => Four v bx (.string nm) (.slice a0 n0 c0) (.slice a1 n1 c1) (.slice al nl cl) ∧ Four v bm (.string (nm ++ bs (pskW j))) (.slice t0.ao t0.n t0.c) (.slice t1.ao t1.n t1.c) (.slice tl.ao tl.n tl.c) ∧ Six v gw) (by kernel_rfl) ?_
            obtain ⟨wd, hwd⟩ : ∃ wd, wd = wc.drew := ⟨_, rfl⟩
            have hkd : Kp wc wd := hwd ▸ (⟨rfl, rfl, rfl, Nat.le_refl _, fun _ _ => rfl⟩ : Kp wc wc.drew)
            rw [← hwd]
            clear hwd
            have hq := And.intro ((HF.out.kp HKc.out).kp hkd) (And.intro (hFm.kp hkd) ((HW.out.kp HKc.out).kp hkd))
            clear hFm
            refine anyH_take [0, 2, 4, 5, 6] (by kernel_rfl) hq ?_
            simp only [opsAt, List.getElem?_toArray, List.getElem?_cons_zero, List.getElem?_cons_succ]
            repeat (go_big_quiet_step (fail))
            refine wpQuiet_nil ?_
            refine anyH_load 1 54 (.string (nm ++ bs (pskW j))) rfl rfl (by kernel_rfl) hq (fun w h => exec_ld9 h.2.1.c0 rfl rfl) ?_
            simp only [Act.put, List.setIfInBounds_toArray, List.set_cons_zero, List.set_cons_succ]
            refine anyH_load 3 56 (.string nm) rfl rfl (by kernel_rfl) hq (fun w h => exec_ld9 h.1.c0 rfl rfl) ?_
            simp only [Act.put, List.setIfInBounds_toArray, List.set_cons_zero, List.set_cons_succ]
            have hs1 : nm.size ≤ 9 := Hnm.out
            have hs2 : (bs (pskW j)).size ≤ 4 := by rw [bs_size]; simp [pskW]
            have hs3 : nm.size + (bs (pskW j)).size ≤ 140737488351232 := by omega
            have hs4 : (nm ++ bs (pskW j)).size ≤ 140737488351232 := by rw [ByteArray.size_append]; omega
            have hs5 : nm.size + (bs (pskW j)).size ≤ maxLen := by unfold maxLen; omega
            refine anyH_load 7 60 (.string (bs (pskW j))) rfl rfl (by kernel_rfl) hq (fun w h => exec_ld9 (h.2.2 j hj6) rfl rfl) ?_
            simp only [Act.put, List.setIfInBounds_toArray, List.set_cons_zero, List.set_cons_succ]
            refine anyH_take [8, 9, 10] (by kernel_rfl) hq ?_
            simp only [opsAt, List.getElem?_toArray, List.getElem?_cons_zero, List.getElem?_cons_succ]
            repeat (go_big_quiet_step (fail))
            refine wpQuiet_nil ?_
            refine anyH_loadG 11 64 (.agg #[.string (nm ++ bs (pskW j)), .slice t0.ao t0.n t0.c, .slice t1.ao t1.n t1.c, .slice tl.ao tl.n tl.c]) rfl rfl (by kernel_rfl) (by kernel_rfl) hq (fun w h => exec_load26 h.2.1 rfl rfl) ?_
            simp only [Act.put, List.setIfInBounds_toArray, List.set_cons_zero, List.set_cons_succ]
            refine anyH_one 12 (by kernel_rfl) ?_
            simp only [opsAt, List.getElem?_toArray, List.getElem?_cons_zero, List.getElem?_cons_succ]
            have HC := Lib.hid (count_valid wd (nm ++ bs (pskW j)) t0.ao t1.ao tl.ao t0.n t0.c t1.n t1.c tl.n tl.c d0 d1 dl (HPm.out.kp hkd) HY.out.ck (-1) 7)
            rw [HY.out.cnt] at HC
            go_wp2_with fail
            (with_reducible refine HC.out.mono ?_)
            rintro e v1 ⟨rfl, hk⟩
            have HKd := Lib.hid (Kp.trans hkd hk)
            replace hq := And.intro (hq.1.kp hk) (And.intro (hq.2.1.kp hk) (hq.2.2.kp hk))
            clear hk hkd HC
            go_wp2_with fail
            refine anyH_take [13, 14, 15, 16, 19] (by kernel_rfl) hq ?_
            simp only [opsAt, List.getElem?_toArray, List.getElem?_cons_zero, List.getElem?_cons_succ]
            repeat (go_big_quiet_step (fail))
            refine wpQuiet_nil ?_
            refine anyH_loadG 17 70 (.slice tl.ao tl.n tl.c) rfl rfl (by kernel_rfl) (by kernel_rfl) hq (fun w h => exec_load24 h.2.1.c3 rfl rfl) ?_
            simp only [Act.put, List.setIfInBounds_toArray, List.set_cons_zero, List.set_cons_succ]
            refine anyH_take [18, 20] (by kernel_rfl) hq ?_
            simp only [opsAt, List.getElem?_toArray, List.getElem?_cons_zero, List.getElem?_cons_succ]
            repeat (go_big_quiet_step (fail))
            refine wpQuiet_nil ?_
            refine anyH_one 21 (by kernel_rfl) ?_
            simp only [opsAt, List.getElem?_toArray, List.getElem?_cons_zero, List.getElem?_cons_succ]
            go_wp2_with fail
            refine anyH_end (by kernel_rfl) ?_
            go_wp2_with fail
            go_meet
            case rel => exact ⟨by simp [Htl.out], HKd.out⟩
          case rest =>
            obtain ⟨rfl, hkv⟩ := hcut
            have HKv := Lib.hid (Kp.trans HKc.out hkv)
            have HFv := Lib.hid (HFm2.out.kp hkv)
            have HPv := Lib.hid (HPm.out.kp hkv)
            clear hkv
            obtain ⟨tla, tln, tlc⟩ := tl
            simp only at HFv HPv Htl
            obtain rfl : tln = nl := Htl.out
            obtain ⟨i, hi⟩ : ∃ i, i = j - 1 := ⟨_, rfl⟩
            have hil : i < tln := by omega
            have hmx : max (((j : Nat) : Int) - 1) 0 = ((i : Nat) : Int) := by omega
            have h1 : i < dl.length := by rw [HY.out.len]; show i < ls.length; rw [Hnl.out]; exact hil
            have h2 : i < ls.length := by rw [Hnl.out]; exact hil
            obtain ⟨g1, o1, tp, tn, tc, rfl, hd1, hd2, hI, _⟩ := HPv.out.il.2.2 i h1
            obtain ⟨g2, o2, sp, sn, sc, rfl, he1, he2, hJ, _⟩ := (HP.out.kp HKv.out).il.2.2 i h2
            have hat := HY.out.at_ (hi ▸ h1) (hi ▸ h2)
            simp only [← hi] at hat
            have htn : tn = sn + 1 := by have a1 := hI.1; have a2 := hJ.1; have a3 := hat.1; omega
            have Hat := Lib.hid hat
            have HI := Lib.hid hI
            have HKw := Lib.hid HKv.out
            have hsn : sn ≤ 24 := by rw [← hJ.1]; exact (Hcd.out.2.2.2.2 _ (List.getElem_mem h2)).2.2.1
            subst htn
            obtain ⟨x0, x1, x2, x3, _, _, _, _⟩ := HFv.out
            obtain ⟨y0, y1, y2, y3, _, _, _, _⟩ := HF.out.kp HKv.out
            clear hat hJ hd1 he1
            by_cases hj0 : j = 0
            · obtain ⟨g3, o3, rfl, _, hc⟩ := hI.at 0 (by omega)
              have hc0 := hc 0 (by omega)
              have h7 : (dl[i].2)[0]? = some 7 := Hat.out.2.1 hj0
              rw [List.getElem?_eq_getElem (by rw [hI.1]; omega), Option.some.injEq] at h7
              rw [h7] at hc0
              have hi0 : i = 0 := by omega
              clear hc hI h7 Hat hi
              subst hj0
              subst hi0
              have hm0 : max (-1 : Int) 0 = 0 := by decide
              clear hmx
              simp only [Nat.zero_mul, Nat.add_zero] at hd2 he2 hc0
              go_wp2_with fail
              go_roundw
              case rel => exact ⟨1, by omega, by first | rfl | go_num, HKw.out⟩
              case measure => simp [intOf]
            · obtain ⟨g3, o3, rfl, _, hc⟩ := hI.at sn (by omega)
              have hc0 := hc sn (by omega)
              have hln : dl[i].2.length = sn + 1 := hI.1
              have h7 : (dl[i].2)[dl[i].2.length - 1]? = some 7 := Hat.out.2.2 hj0
              rw [List.getElem?_eq_getElem (by rw [hln]; omega), Option.some.injEq] at h7
              have h8 : (dl[i].2)[sn]'(by rw [hln]; omega) = 7 := by rw [← h7]; congr 1; omega
              rw [h8] at hc0
              clear hc hI h7 h8 hln Hat
              have hjp : ((i : Nat) : Int) = (j : Nat) - 1 := by omega
              have hj1 : j = i + 1 := by omega
              clear hi hjp hmx
              subst hj1
              have hmx : max ((i : Nat) : Int) 0 = (i : Nat) := by omega
              go_wp2_with fail
              exact ⟨⟨i + 2, by omega, by first | rfl | go_num, HKw.out⟩, by simp [intOf]; omega⟩
        · rw [psk_no hpj (by show ¬ j ≤ ls.length; rw [Hnl.out]; exact hjn)] at hcut
          obtain ⟨bm, t0, t1, tl, rfl, rfl, ⟨hkc, _⟩, hFm, hPm⟩ := hcut
          have HKc := Lib.hid (Kp.trans HKr.out hkc)
          have hg0 := (HE2.out.keep HKc.out).c0
          have hns : ∀ w, (binOp .neq 30 (.iface 229 (.pointer (some (E 1)))) (.iface 229 (.pointer (some (E 1))))).run Tryz.prog w = .ok (.bool false) w := fun w => neq_same w (E 1)
          rw [show errV E 1 = .iface 229 (.pointer (some (E 1))) from errV_ptr E (by decide)]
          clear hkc hFm hPm hpj
          have hjI : ¬ ((j : Nat) : Int) ≤ (nl : Nat) := by omega
          have hjL : ((nl : Nat) : Int) < (j : Nat) := by omega
          have hjN : nl < j := by omega
          go_wp2_with fail
          go_roundw
          case rel => exact ⟨j + 1, by omega, by first | rfl | go_num, HKc.out⟩
          case measure => simp [intOf]; omega
    · obtain rfl : j = 6 := by omega
      have HKr := Lib.hid hkr
      clear hkr
      rw [show ((6 : Nat) : Int) = 6 from rfl]
      have hFr := HF.out.kp HKr.out
      have hWr := HW.out.kp HKr.out
      go_upto_region 16 with fail
      go_cut [10, 11] (fun v6 v7 wc => MdEnd wr E (mdf ⟨nm.data.toList, b0, b1, ls⟩ (allW (nl + 1))) v6 v7 wc)
      case first =>
        refine anyH_start (fun v => Four v bx (.string nm) (.slice a0 n0 c0) (.slice a1 n1 c1) (.slice al nl cl) ∧ Six v gw) (by kernel_rfl) ?_
        obtain ⟨wd, hwd⟩ : ∃ wd, wd = wr.drew := ⟨_, rfl⟩
        have hkd : Kp wr wd := hwd ▸ (⟨rfl, rfl, rfl, Nat.le_refl _, fun _ _ => rfl⟩ : Kp wr wr.drew)
        rw [← hwd]
        clear hwd
        have hq := And.intro (hFr.kp hkd) (hWr.kp hkd)
        clear hFr hWr
        have hn6 : nl + 1 ≤ 6 := by omega
        refine anyH_take [1, 2, 3, 4] (by kernel_rfl) hq ?_
        simp only [opsAt, List.getElem?_toArray, List.getElem?_cons_zero, List.getElem?_cons_succ]
        repeat (go_big_quiet_step (fail))
        refine wpQuiet_nil ?_
        refine anyH_load 0 119 (patV nm a0 a1 al n0 c0 n1 c1 nl cl) rfl rfl (by kernel_rfl) hq (fun w h => exec_load26 h.1 rfl rfl) ?_
        simp only [Act.put, List.setIfInBounds_toArray, List.set_cons_zero, List.set_cons_succ]
        refine anyH_two 5 9 (by kernel_rfl) ?_ ?_
        · simp only [opsAt, List.getElem?_toArray, List.getElem?_cons_zero, List.getElem?_cons_succ]
          have HC := Lib.hid (many_words wd E m (HE2.out.keep (Kp.trans HKr.out hkd)) nm a0 a1 al n0 c0 n1 c1 nl cl b0 b1 ls (HP.out.kp (Kp.trans HKr.out hkd)) Hsh.out (nl + 1) hn6 gw hq.2)
          go_wp2_with fail
          (with_reducible refine HC.out.mono ?_)
          rintro e w4 ⟨hk, t0, t1, tl, rfl, hPX⟩
          unfold tvv
          replace hq := And.intro (hq.1.kp hk) (hq.2.kp hk)
          have hk1w := Kp.trans hkd hk
          have hPv := hPX [] w4 (Fr.refl _ _) (by simp)
          clear hk HC hPX
          go_wp2_with fail
          refine anyH_take [6, 7, 8] (by kernel_rfl) hq ?_
          simp only [opsAt, List.getElem?_toArray, List.getElem?_cons_zero, List.getElem?_cons_succ]
          repeat (go_big_quiet_step (fail))
          refine wpQuiet_nil ?_
          have hZ := Four.new w4 (.string ⟨#[]⟩) (.slice none 0 0) (.slice none 0 0) (.slice none 0 0) 26
          obtain ⟨v9, hv9, hF9, hN⟩ := hZ.set (.string (mdf ⟨nm.data.toList, b0, b1, ls⟩ (allW (nl + 1))).1) (.slice t0.ao t0.n t0.c) (.slice t1.ao t1.n t1.c) (.slice tl.ao tl.n tl.c)
          have hkb9 : Kp w4 v9 := ((Fr.of_kp (Kp.new w4 (.cells #[.string ⟨#[]⟩, .slice none 0 0, .slice none 0 0, .slice none 0 0] 26))).step hF9 (fun x hx => .inr (by simp at hx; omega))).kp
          have hPf := hPv.kp hkb9
          have hkf := Kp.trans hk1w hkb9
          have hqs := And.intro (hq.1.kp hkb9) (hq.2.kp hkb9)
          replace hq := And.intro (hq.1.kp (Kp.new w4 (.cells #[.string ⟨#[]⟩, .slice none 0 0, .slice none 0 0, .slice none 0 0] 26))) (hq.2.kp (Kp.new w4 (.cells #[.string ⟨#[]⟩, .slice none 0 0, .slice none 0 0, .slice none 0 0] 26)))
          have hwb := hk1w.size
          clear hkb9 hF9 hPv hk1w
          refine anyH_one 9 (by kernel_rfl) ?_
          simp only [opsAt, List.getElem?_toArray, List.getElem?_cons_zero, List.getElem?_cons_succ]
          go_wp2_with fail
          generalize w4.alloc (.cells #[.string ⟨#[]⟩, .slice none 0 0, .slice none 0 0, .slice none 0 0] 26) = w5 at *
          generalize w4.heap.size = bm at *
          obtain ⟨z0, z1, z2, z3, z4, z5, z6, z7⟩ := hZ
          subst hv9
          refine anyH_one 10 (by kernel_rfl) ?_
          simp only [opsAt, List.getElem?_toArray, List.getElem?_cons_zero, List.getElem?_cons_succ]
          go_wp2_with fail
          refine anyH_one 11 (by kernel_rfl) ?_
          simp only [opsAt, List.getElem?_toArray, List.getElem?_cons_zero, List.getElem?_cons_succ]
          go_wp2_with fail
          refine anyH_end (by kernel_rfl) ?_
          go_wp2_with fail
          go_meet
          case rel => exact ⟨bm, t0, t1, tl, rfl, rfl, ⟨hkf, hwb⟩, hN, hPf⟩
        · simp only [opsAt, List.getElem?_toArray, List.getElem?_cons_zero, List.getElem?_cons_succ]
          have hZ := Four.new wd (.string ⟨#[]⟩) (.slice none 0 0) (.slice none 0 0) (.slice none 0 0) 26
          have hkn := Kp.new wd (.cells #[.string ⟨#[]⟩, .slice none 0 0, .slice none 0 0, .slice none 0 0] 26)
          have hlt : wd.heap.size < (wd.alloc (.cells #[.string ⟨#[]⟩, .slice none 0 0, .slice none 0 0, .slice none 0 0] 26)).heap.size := by simp
          have hpb : bx < wd.heap.size := hq.1.lt
          have hgb := six_lt hq.2
          have hwb : wr.heap.size ≤ wd.heap.size := (hkd).size
          replace hq := And.intro (hq.1.kp hkn) (hq.2.kp hkn)
          go_wp2_with fail
          generalize wd.alloc (.cells #[.string ⟨#[]⟩, .slice none 0 0, .slice none 0 0, .slice none 0 0] 26) = w3 at *
          generalize wd.heap.size = bm at *
          have hkU := Kp.trans hkd hkn
          refine anyH_one 5 (by kernel_rfl) ?_
          simp only [opsAt, List.getElem?_toArray, List.getElem?_cons_zero, List.getElem?_cons_succ]
          have HC := Lib.hid (many_words w3 E m (HE2.out.keep (Kp.trans HKr.out hkU)) nm a0 a1 al n0 c0 n1 c1 nl cl b0 b1 ls (HP.out.kp (Kp.trans HKr.out hkU)) Hsh.out (nl + 1) hn6 gw hq.2)
          go_wp2_with fail
          (with_reducible refine HC.out.mono ?_)
          rintro e w5 ⟨hk, t0, t1, tl, rfl, hPX⟩
          unfold tvv
          replace hq := And.intro (hq.1.kp hk) (hq.2.kp hk)
          replace hZ := hZ.kp hk
          obtain ⟨v9, hv9, hF9, hN⟩ := hZ.set (.string (mdf ⟨nm.data.toList, b0, b1, ls⟩ (allW (nl + 1))).1) (.slice t0.ao t0.n t0.c) (.slice t1.ao t1.n t1.c) (.slice tl.ao tl.n tl.c)
          have hPf := hPX [bm] v9 hF9 (by simpa using hlt)
          have hkf : Kp wr v9 := ((Fr.of_kp (Kp.trans hkU hk)).step hF9 (fun x hx => .inr (by simp at hx; omega))).kp
          have hqs := And.intro (hq.1.fr hF9 (by simp; omega)) (six_fr hq.2 hF9 (by simp; omega))
          clear hk HC hPX hF9
          go_wp2_with fail
          refine anyH_take [6, 7, 8] (by kernel_rfl) hq ?_
          simp only [opsAt, List.getElem?_toArray, List.getElem?_cons_zero, List.getElem?_cons_succ]
          repeat (go_big_quiet_step (fail))
          refine wpQuiet_nil ?_
          obtain ⟨z0, z1, z2, z3, z4, z5, z6, z7⟩ := hZ
          subst hv9
          refine anyH_one 10 (by kernel_rfl) ?_
          simp only [opsAt, List.getElem?_toArray, List.getElem?_cons_zero, List.getElem?_cons_succ]
          go_wp2_with fail
          refine anyH_one 11 (by kernel_rfl) ?_
          simp only [opsAt, List.getElem?_toArray, List.getElem?_cons_zero, List.getElem?_cons_succ]
          go_wp2_with fail
          refine anyH_end (by kernel_rfl) ?_
          go_wp2_with fail
          go_meet
          case rel => exact ⟨bm, t0, t1, tl, rfl, rfl, ⟨hkf, hwb⟩, hN, hPf⟩
      case rest =>
        obtain ⟨bm, t0, t1, tl, rfl, rfl, ⟨hkc, hbm⟩, hFm, hPm⟩ := hcut
        obtain ⟨nq, d0, d1, dl, hmd, hck2, hcnt⟩ := all_yes (p := ⟨nm.data.toList, b0, b1, ls⟩) Hall.out
        rw [show (⟨nm.data.toList, b0, b1, ls⟩ : Q.Pn).ls.length = nl from Hnl.out] at hmd hcnt
        rw [hmd] at hFm hPm ⊢
        unfold tvv at hFm
        simp only at hFm hPm ⊢
        rw [errV_nil]
        have hrr : w2.heap.size ≤ bm := Nat.le_trans HKr.out.size hbm
        clear hmd
        go_step
        exact modified_tail w w2 wc E m HE2.out nm nq a0 a1 al n0 c0 n1 c1 nl cl bx bm t0 t1 tl b0 b1 d0 d1 ls dl HF.out HP.out Hsh.out Hnm.out hFm hPm hck2 hcnt Hfall.out Hck.out Hk2.out (Kp.trans HKr.out hkc) hrr hn5b _ _ _ _ _ _ _ _ _ _ _ _ _ _ _ _ _ _ _ _ _ _ _ _ _ _ _ _ _ _ _ _ _ _ _ _ _ _ _ _ _ _ _ _ _ _ _ _ _ _ _ _ _ _ _ _ _ _ _ _ _ _ _ _ _ _ _ _ _ _ _ _ _ _ _ _ _ _ _ _ _ _ _ _ _ _ _ _ _ _ _ _ _ _ _ _ _ _ _ _ _ _ _ _ _ _ _ _ _ _ _ _ _ _ _ _ _ _ _ _ _ _ _ _ _ _ _ _ _ _ _ _ _ _ _ _ _ _ _ _ _ _ _ _ _ _ _ _ _ _ _ _ _ _ _ _ _ _ _ _ _ _ _ _ _ _ _ _ _ _ _ _ _ _ _ _ _ _ _ _ _ _ _ _ _ _ _ _ _ _ _ _ _ _ _ _ _ _ _ _ _ _ _ _ _ _ _ _ _ _ _ _ _ _ _ _ _ _ _ _ _
end Go.Proofs.YtkmejehhdjdlbaaGreatDoor
