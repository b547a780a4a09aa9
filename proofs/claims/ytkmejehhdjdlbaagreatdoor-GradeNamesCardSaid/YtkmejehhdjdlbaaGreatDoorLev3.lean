/- What each message is worth: the program's list, walked. Conditions: the pattern lies there (Is, Lns), the errors too. -/
import Derived.Test.YtkmejehhdjdlbaaGreatDoorGf9
namespace Go.Proofs.YtkmejehhdjdlbaaGreatDoor
open Go.RowKit

set_option maxRecDepth 100000 in
set_option maxHeartbeats 8000000 in
theorem levels_any (w : World) (E : Nat → Addr) (EA : Addr) (hE : Errs w E) (hA : w.cell? ⟨0, 0, none⟩ = some (.iface 229 (.pointer (some EA)))) (more : Int)
    (nm : ByteArray) (a0 a1 al : Option Addr) (n0 c0 n1 c1 nl cl : Nat) (b0 b1 : List Int) (ls : List Ln) (h0 : Is w a0 n0 b0) (h1 : Is w a1 n1 b1) (hl : Lns w al nl ls) (hnl : nl ≤ 50000) :
    Calls Tryz.prog 15 #[.agg #[.string nm, .slice a0 n0 c0, .slice a1 n1 c1, .slice al nl cl], iv more] w (LevelsPost w E EA b0 b1 ls more) := by
  have Hll := Lib.hid hl.1
  have hkb := Kp.new w (.cells #[.string nm, .slice a0 n0 c0, .slice a1 n1 c1, .slice al nl cl] 26)
  have hB := Bx.new w nm a0 a1 al n0 c0 n1 c1 nl cl
  obtain ⟨wb, hwb⟩ : ∃ wb, wb = w.alloc (.cells #[.string nm, .slice a0 n0 c0, .slice a1 n1 c1, .slice al nl cl] 26) := ⟨_, rfl⟩
  rw [← hwb] at hkb hB
  obtain ⟨bx, hbx⟩ : ∃ bx, bx = w.heap.size := ⟨_, rfl⟩
  rw [← hbx] at hB
  have HC := Lib.hid (check_any wb E (hkb.errs hE) nm a0 a1 al n0 c0 n1 c1 nl cl b0 b1 ls (hkb.is h0) (hkb.is h1) (hkb.lns hl))
  have Hkb := Lib.hid hkb
  have HB := Lib.hid hB
  have HA := Lib.hid (hkb.cell hA)
  have hlb := hkb.lns hl
  have hbxl : bx < wb.heap.size := by have := World.block_lt_of_cell? _ _ hB.1; simpa using this
  obtain ⟨y0, y1, y2, y3⟩ := hB
  clear h0 h1 hl hE hA hkb
  go_enter Tryz.func15, Tryz.ntmps15
  go_upto_region 1 with fail
  rw [← hwb, ← hbx]
  clear hwb hbx
  by_cases hc : checkL b0 b1 ls = 0
  · have Hc := Lib.hid hc
    have HCc := HC.out
    rw [hc, errV_nil] at HCc
    have HCn := Lib.hid HCc
    have h2 := two_of_check hc
    clear hc HCc HC
    go_wp2_with fail
    (with_reducible refine HCn.out.mono ?_)
    rintro e w1 ⟨rfl, hk1⟩
    clear y0 y1 y2 y3
    by_cases hm : more < 0 ∨ 64 < more
    · have Hm := Lib.hid hm
      have HK := Lib.hid (Kp.trans Hkb.out hk1)
      have hA1 := hk1.cell HA.out
      clear hlb h2 hbxl
      rcases hm with hm | hm
      · go_upto_region 5 with fail
        refine anyH_start (fun w => w.cell? ⟨0, 0, none⟩ = some (.iface 229 (.pointer (some EA)))) (by kernel_rfl) ?_
        have hkd : Kp w1 w1.drew := ⟨rfl, rfl, rfl, Nat.le_refl _, fun _ _ => rfl⟩
        generalize w1.drew = wd at *
        have hAd := hkd.cell hA1
        refine anyH_take [1] (by kernel_rfl) hAd ?_
        simp only [opsAt, List.getElem?_toArray, List.getElem?_cons_zero, List.getElem?_cons_succ]
        repeat (go_big_quiet_step (fail))
        refine wpQuiet_nil ?_
        refine anyH_load 0 27 (.iface 229 (.pointer (some EA))) rfl rfl (by kernel_rfl) hAd (fun w h => exec_load32 h rfl rfl) ?_
        simp only [Act.put, List.setIfInBounds_toArray, List.set_cons_zero, List.set_cons_succ]
        refine anyH_take [2] (by kernel_rfl) hAd ?_
        simp only [opsAt, List.getElem?_toArray, List.getElem?_cons_zero, List.getElem?_cons_succ]
        repeat (go_big_quiet_step (fail))
        refine wpQuiet_nil ?_
        refine anyH_end (by kernel_rfl) ?_
        have HP := Lib.hid (LevelsPost.arg (E := E) (EA := EA) (more := more) (Kp.trans HK.out hkd) Hc.out Hm.out)
        go_wp2_with fail
        show bodyPost Tryz.prog Tryz.f15 (LevelsPost w E EA b0 b1 ls more) .ret _ _
        refine bodyPost_ret (v := .tuple #[.slice none 0 0, .iface 229 (.pointer (some EA))]) (by simp [results, Tryz.results15, go_sem]) rfl ?_
        exact HP.out
      · have hm0 : ¬ more < 0 := by omega
        go_upto_region 5 with fail
        refine anyH_start (fun w => w.cell? ⟨0, 0, none⟩ = some (.iface 229 (.pointer (some EA)))) (by kernel_rfl) ?_
        have hkd : Kp w1 w1.drew := ⟨rfl, rfl, rfl, Nat.le_refl _, fun _ _ => rfl⟩
        generalize w1.drew = wd at *
        have hAd := hkd.cell hA1
        refine anyH_take [1] (by kernel_rfl) hAd ?_
        simp only [opsAt, List.getElem?_toArray, List.getElem?_cons_zero, List.getElem?_cons_succ]
        repeat (go_big_quiet_step (fail))
        refine wpQuiet_nil ?_
        refine anyH_load 0 27 (.iface 229 (.pointer (some EA))) rfl rfl (by kernel_rfl) hAd (fun w h => exec_load32 h rfl rfl) ?_
        simp only [Act.put, List.setIfInBounds_toArray, List.set_cons_zero, List.set_cons_succ]
        refine anyH_take [2] (by kernel_rfl) hAd ?_
        simp only [opsAt, List.getElem?_toArray, List.getElem?_cons_zero, List.getElem?_cons_succ]
        repeat (go_big_quiet_step (fail))
        refine wpQuiet_nil ?_
        refine anyH_end (by kernel_rfl) ?_
        have HP := Lib.hid (LevelsPost.arg (E := E) (EA := EA) (more := more) (Kp.trans HK.out hkd) Hc.out Hm.out)
        go_wp2_with fail
        show bodyPost Tryz.prog Tryz.f15 (LevelsPost w E EA b0 b1 ls more) .ret _ _
        refine bodyPost_ret (v := .tuple #[.slice none 0 0, .iface 229 (.pointer (some EA))]) (by simp [results, Tryz.results15, go_sem]) rfl ?_
        exact HP.out
    · obtain ⟨m, rfl, hm64⟩ : ∃ m : Nat, more = (m : Int) ∧ m ≤ 64 := ⟨more.toNat, by omega, by omega⟩
      clear hm
      have hlw := hk1.lns hlb
      have hBw := HB.out.kp hk1
      have HK1 := Lib.hid (Kp.trans Hkb.out hk1)
      have hs1 : w.heap.size ≤ w1.heap.size := HK1.out.size
      have hs1b : wb.heap.size ≤ w1.heap.size := hk1.size
      clear hlb hk1 HCn HA
      go_upto_region 7 with fail
      have hkt := Kp.new w1 (.cells #[uv 0, iv 0, iv 0] 78)
      have hTk := TellK.new w1 (Q.msgsT ls m)
      change Code.wp _ _ _ _ (w1.alloc (.cells #[uv 0, iv 0, iv 0] 78))
      generalize w1.alloc (.cells #[uv 0, iv 0, iv 0] 78) = w3 at *
      obtain ⟨bt, hbt⟩ : ∃ bt, bt = w1.heap.size := ⟨_, rfl⟩
      rw [← hbt] at hTk ⊢
      have hbtx : bx < bt := by omega
      have hbt3 : bt < w3.heap.size := by have := World.block_lt_of_cell? _ _ hTk.c0; simpa using this
      have HK3 := Lib.hid (Kp.trans HK1.out hkt)
      have hB3 := hBw.kp hkt
      have hbtw : w.heap.size ≤ bt := by omega
      have Hsb := Lib.hid (show w1.heap.size ≤ bt by omega)
      have hFK : ∀ wr, Fr [bt] w3 wr → Kp w1 wr := fun wr h => ((Fr.of_kp hkt).step h (fun j hj => .inr (by simp only [List.mem_singleton] at hj; omega))).kp
      have HFK := Lib.hid hFK
      have Hin := Lib.hid (And.intro hBw hlw)
      clear hbt hkt hlw hBw hs1 hs1b hFK
      obtain ⟨y0, y1, y2, y3⟩ := hB3
      go_wp2_with fail
      clear y0 y1 y2 y3
      go_loopw [8, 33] (fun l i wr => ∃ k cap ao, k ≤ nl ∧ i = .int .i64 (k : Nat) ∧ l = .slice ao k cap ∧ GrO wr w3.heap.size ao k cap ((Q.levelsT ls m).take k) ∧ TellK wr bt (Q.msgsT ls m) k (flagsT (ls.take k)) ∧ Fr [bt] w3 wr) (fun _ i _ => nl - (intOf i).toNat)
      case atStart => exact ⟨0, 0, none, by omega, rfl, rfl, GrO.nil _ _, hTk, Fr.refl _ _⟩
      case round =>
        clear hTk
        obtain ⟨k, cap, ao, hk, rfl, rfl, hO, hTk, hF⟩ := hrel
        rename World => wr
        by_cases hlt : k < nl
        · have hkl : k < ls.length := by rw [Hll.out]; exact hlt
          have hkr := HFK.out wr hF
          obtain ⟨b, off, tp, tn, tc, rfl, hd1, hd2, hI, htn⟩ := (Hin.out.2).2.2 k hkl
          have HI1 := Lib.hid hI
          replace hd1 := hkr.cell hd1
          replace hd2 := hkr.cell hd2
          replace hI := hkr.is hI
          have Hfj := Lib.hid (flagsJ_all ls k hkl)
          have Hm := Lib.hid (show (Q.msgsT ls m)[k]? = some (ls[k].1, ls[k].2) from Q.msgsT_lt ls m hkl)
          have hf01 := h2.two _ (List.getElem_mem hkl)
          have Hlev := Lib.hid (show (Q.levelsT ls m).take (k + 1) = (Q.levelsT ls m).take k ++ [Q.gradeT (Q.msgsT ls m) k ls[k].1] by
            rw [Q.levelsT_take ls m k (by omega)]
            unfold Q.fromT
            rw [List.getElem?_eq_getElem hkl])
          generalize hl1 : ls[k].1 = f at *
          generalize hl2 : ls[k].2 = ts at *
          clear hl1 hl2
          go_upto_region 11 with fail
          have hk4 := Kp.new wr (.cells #[iv f, .slice tp tn tc] 73)
          have q0 : (wr.alloc (.cells #[iv f, .slice tp tn tc] 73)).cell? ⟨wr.heap.size, 0, none⟩ = some (iv f) := by rw [World.cell?_alloc_at _ _ _ _ rfl]; rfl
          have q1 : (wr.alloc (.cells #[iv f, .slice tp tn tc] 73)).cell? ⟨wr.heap.size, 1, none⟩ = some (.slice tp tn tc) := by rw [World.cell?_alloc_at _ _ _ _ rfl]; rfl
          generalize wr.alloc (.cells #[iv f, .slice tp tn tc] 73) = w4 at hk4 q0 q1 ⊢
          obtain ⟨bl, hbl2⟩ : ∃ bl, bl = wr.heap.size := ⟨_, rfl⟩
          rw [← hbl2] at q0 q1 ⊢
          have hblt : bt ≠ bl := by have := hF.size; omega
          have hI4 := hk4.is hI
          have hT4 := hTk.kp hk4
          rw [← flagsJ_zero] at hT4
          have HO4 := Lib.hid (hO.keep hk4)
          have HF4 := Lib.hid (hF.trans ((Fr.of_kp hk4).mono (by simp)))
          have htl := hI.1
          clear hbl2 hk4 hd1 hd2 hI hTk hO hF hkr
          have Hq0 := Lib.hid q0
          go_wp2_with fail
          clear q0 q1
          go_loopw [40] (fun i wv => ∃ j, j ≤ tn ∧ i = .int .i64 (j : Nat) ∧ TellK wv bt (Q.msgsT ls m) k (flagsJ (ls.take k) (ts.take j)) ∧ Fr [bt] w4 wv) (fun i _ => tn - (intOf i).toNat)
          case atStart => exact ⟨0, by omega, rfl, by rw [List.take_zero]; exact hT4, Fr.refl _ _⟩
          case round =>
            clear hT4
            obtain ⟨j, hj, rfl, hTj, hFj⟩ := hrel
            rename World => wv
            by_cases hjt : j < tn
            · have hjl : j < ts.length := by omega
              obtain ⟨tb, toff, rfl, htbl, hcc⟩ := hI4.at j hjt
              have hck := hFj.cell (hcc j hjt) (by
                obtain ⟨tb', toff', e, hlt', _⟩ := HI1.out.at j hjt
                simp only [Option.some.injEq, Addr.mk.injEq, and_true] at e
                have := Hsb.out
                simp only [List.mem_singleton]
                omega)
              have Hfl := Lib.hid (flagsJ_next (ls.take k) ts j hjl)
              clear hcc htbl
              generalize ts[j]'hjl = u at *
              go_upto_region 14 with fail
              generalize hFv : flagsJ (ls.take k) (ts.take j) = Fv at *
              generalize hFw : flagsJ (ls.take k) (ts.take (j + 1)) = Fw at *
              have hT0 := hTj.c0
              refine anyP_start (fun w => w.cell? ⟨bt, 0, none⟩ = some (uv Fv)) 9 (fun _ => True) (fun _ _ => False) (by kernel_rfl) (fun _ _ _ _ h => h.elim) ?_
              have hkd : Kp wv wv.drew := ⟨rfl, rfl, rfl, Nat.le_refl _, fun _ _ => rfl⟩
              generalize wv.drew = wd at *
              have hTd := hkd.cell hT0
              have hTjd := hTj.kp hkd
              have hFd := hFj.trans ((Fr.of_kp hkd).mono (by simp))
              clear hT0 hTj hFj hkd hck
              refine anyP_take puts_true [0, 1, 2, 4] (by kernel_rfl) hTd ?_
              simp only [opsAt, List.getElem?_toArray, List.getElem?_cons_zero, List.getElem?_cons_succ]
              repeat (go_big_quiet_step (fail))
              refine wpQuiet_nil ?_
              refine anyP_load puts_true 3 47 (uv Fv) rfl rfl (by kernel_rfl) hTd (fun w h => exec_load56 h rfl rfl) ?_
              simp only [Act.put, List.setIfInBounds_toArray, List.set_cons_zero, List.set_cons_succ]
              refine anyP_one 5 (by kernel_rfl) ?_
              simp only [opsAt, List.getElem?_toArray, List.getElem?_cons_zero, List.getElem?_cons_succ]
              go_wp2_with fail
              (with_reducible refine (flag_any u wd).mono ?_)
              rintro e w5 ⟨rfl, rfl⟩
              go_wp2_with fail
              refine ⟨fun _ => hTd, ?_⟩
              refine anyP_take puts_true [6] (by kernel_rfl) hTd ?_
              simp only [opsAt, List.getElem?_toArray, List.getElem?_cons_zero, List.getElem?_cons_succ]
              repeat (go_big_quiet_step (fail))
              refine wpQuiet_nil ?_
              have HTd := Lib.hid hTd
              obtain ⟨r0, r1, r2, s0, s1, s2⟩ := hTjd
              have HTn := Lib.hid (TellK.set (show TellK wd bt (Q.msgsT ls m) k Fv from ⟨r0, r1, r2, s0, s1, s2⟩) Fw)
              have HFn := Lib.hid (hFd.trans (Fr.set wd ⟨bt, 0, none⟩ (uv Fw)))
              clear r1 r2 s1 s2 hTd hFd
              refine anyP_one 7 (by kernel_rfl) ?_
              simp only [opsAt, List.getElem?_toArray, List.getElem?_cons_zero, List.getElem?_cons_succ]
              go_wp2_with fail
              refine ⟨fun _ => HTd.out, ?_⟩
              refine anyP_one 8 (by kernel_rfl) ?_
              simp only [opsAt, List.getElem?_toArray, List.getElem?_cons_zero, List.getElem?_cons_succ]
              go_wp2_with fail
              refine ⟨fun _ => HTd.out, ?_⟩
              refine anyP_one 9 (by kernel_rfl) ?_
              simp only [opsAt, List.getElem?_toArray, List.getElem?_cons_zero, List.getElem?_cons_succ]
              rw [Hfl.out]
              go_wp2_with fail
              refine ⟨fun h => absurd rfl h, ?_⟩
              refine anyP_end (by kernel_rfl) ?_
              clear r0 s0
              go_wp2_with fail
              go_roundw
              case rel => exact ⟨j + 1, by omega, by go_num, hFw ▸ HTn.out, HFn.out⟩
              case measure => simp [intOf]; omega
            · obtain rfl : j = tn := by omega
              have e := List.take_of_length_le (i := j) (l := ts) (by omega)
              rw [e, Hfj.out, ← flagsT_msgs ls m (k + 1)] at hTj
              clear e
              have q0 := hFj.cell Hq0.out (by simp only [List.mem_singleton]; omega)
              have HG := Lib.hid (grade_step bt (Q.msgsT ls m) k f ts Hm.out hf01 wv hTj)
              have hOj := HO4.out.fr hFj (fun x hx hq => by simp only [List.mem_singleton] at hq; have := (HO4.out.lt x hx).1; omega)
              have hFj3 := HF4.out.trans hFj
              clear hTj hFj hI4
              go_wp2_with fail
              (with_reducible refine HG.out.mono ?_)
              rintro e w5 ⟨rfl, hF5, hT5⟩
              have hO5 := hOj.fr hF5 (fun x hx hq => by simp only [List.mem_singleton] at hq; have := (hOj.lt x hx).1; omega)
              have hF35 := hFj3.trans hF5
              rw [flagsT_msgs] at hT5
              clear hOj hFj3 hF5 q0 HG
              generalize hg : Q.gradeT (Q.msgsT ls m) k f = g at *
              have hcap : k + 1 ≤ 1000000 := by omega
              go_wp2_with (at_builtin; refine wpList_gr1 rfl (.tmp 54) (.tmp 59) rfl rfl hO5 g rfl (by simp) hcap hF35.size ?_; intro ao2 cap2 w6 ha)
              have Hfin := Lib.hid (show GrO w6 w3.heap.size ao2 (k + 1) cap2 ((Q.levelsT ls m).take (k + 1)) ∧ TellK w6 bt (Q.msgsT ls m) (k + 1) (flagsT (ls.take (k + 1))) ∧ Fr [bt] w3 w6 from
                ⟨by rw [Hlev.out]; exact ha.own, hT5.fr ha.fr (fun hq => by have := (hO5.lt bt hq).1; omega), hF35.step ha.fr (fun x hx => .inr (hO5.lt x hx).1)⟩)
              clear ha hO5 hT5 hF35 hg
              go_roundw
              case rel => exact ⟨k + 1, cap2, ao2, by omega, by go_num, rfl, Hfin.out⟩
              case measure => simp [intOf]; omega
        · obtain rfl : k = nl := by omega
          have hkr := HFK.out wr hF
          have hkn : k - 1 < ls.length := by have := h2.pos; have := Hll.out; omega
          obtain ⟨b, off, tp, tn, tc, rfl, hd1, hd2, hI, htn⟩ := (Hin.out.2).2.2 (k - 1) hkn
          replace hd1 := hkr.cell hd1
          obtain ⟨y0, y1, y2, y3⟩ := Hin.out.1.kp hkr
          have hzv : ls[k - 1].1 = Q.lastOf ls := by rw [lastOf_get h2.pos]; simp only [Hll.out]
          rw [hzv] at hd1
          have Hz2 := Lib.hid (Q.lastOf_two h2.two)
          have How := Lib.hid (show Q.oneWay ls = (k == 1 && Q.lastOf ls == 0) by rw [oneWayQ h2.pos, Hll.out])
          have hk0 : 0 < k := by have := h2.pos; have := Hll.out; omega
          have hkc : (0 : Int) ≤ (k : Int) - 1 := by omega
          clear hzv hd2 hI htn
          generalize hz : Q.lastOf ls = z at *
          generalize how : Q.oneWay ls = ow at *
          go_upto_region 19 with fail
          have hk5 := Kp.new wr (.cells #[iv z] 3)
          have hL5 := One1.new wr (iv z) 3
          generalize wr.alloc (.cells #[iv z] 3) = w5 at *
          obtain ⟨bL, hbL⟩ : ∃ bL, bL = wr.heap.size := ⟨_, rfl⟩
          rw [← hbL] at hL5 ⊢
          have HltO := Lib.hid (show ∀ x ∈ blkL ao, x < bL from fun x hx => by have := (hO.lt x hx).2; omega)
          have hl5 := hk5.cell y3
          have hbt5 : bt < bL := by have := hF.size; omega
          have hO5 := hO.keep hk5
          have hT5 := hTk.kp hk5
          have hF5 := hF.trans ((Fr.of_kp hk5).mono (by simp))
          have hB5 : w3.heap.size ≤ bL := by have := hF.size; omega
          clear hbL hk5 y0 y1 y2 y3 hd1 hO hTk hF hkr
          have Hdj := Lib.hid (show ∀ x ∈ blkL ao, x < bL from HltO.out)
          have hL0 := hL5.c
          go_cut [14] (fun v wc => v = .pointer (some ⟨w5.heap.size, 0, none⟩) ∧ wc = w5.alloc (.cells #[.bool ow] 4))
          case first =>
            by_cases hk1 : k = 1
            · have hb : ((k : Int) == 1) = true := by simp; omega
              have How2 := Lib.hid (show ow = (z == 0) by rw [How.out, hk1]; rfl)
              clear hk1
              go_wp2_with fail
              go_meet
              case rel => exact ⟨rfl, by rw [How2.out]⟩
            · have hb : ((k : Int) == 1) = false := by simp; omega
              have How2 := Lib.hid (show ow = false by rw [How.out, beq_eq_false_iff_ne.2 hk1]; rfl)
              clear hk1
              go_wp2_with fail
              go_meet
              case rel => exact ⟨rfl, by rw [How2.out]⟩
          case rest =>
            obtain ⟨rfl, rfl⟩ := hcut
            have hmf : ∀ (fn : Fn) (first cap : Array Value) (w : World), (Instr.makeFunc fn first cap).run Tryz.prog w = .ok (.func fn first cap) w := fun _ _ _ _ => rfl
            have hk6 := Kp.new w5 (.cells #[.bool ow] 4)
            have hO6 := One1.new w5 (.bool ow) 4
            have hbL5 : bL < w5.heap.size := by have := World.block_lt_of_cell? _ _ hL0; simpa using this
            generalize w5.alloc (.cells #[.bool ow] 4) = w6 at *
            obtain ⟨bO, hbO⟩ : ∃ bO, bO = w5.heap.size := ⟨_, rfl⟩
            rw [← hbO] at hO6 hbL5 ⊢
            have hG6 := hO5.keep hk6
            have hT6 := hT5.kp hk6
            have hL6 := hL5.kp hk6
            have hF6 := hF5.trans ((Fr.of_kp hk6).mono (by simp))
            have hfl : flagsT (ls.take k) = flagsT ls := by rw [List.take_of_length_le (by rw [Hll.out]; exact Nat.le_refl _)]
            rw [hfl] at hT6
            clear hk6 hO5 hT5 hL5 hF5 hl5 hbO hL0 hfl
            go_wp2_with fail
            clear hmf
            go_loopw [8, 81] (fun l i wr => ∃ q cap ao, q ≤ m ∧ i = .int .i64 (q : Nat) ∧ l = .slice ao (k + q) cap ∧ GrO wr w3.heap.size ao (k + q) cap ((Q.levelsT ls m).take (k + q)) ∧ TellK wr bt (Q.msgsT ls m) (k + q) (flagsT ls) ∧ One1 wr bO (.bool ow) ∧ One1 wr bL (iv (lastQ ls q)) ∧ Fr [bt] w3 wr ∧ ∀ x ∈ blkL ao, x ≠ bL ∧ x ≠ bO) (fun _ i _ => m - (intOf i).toNat)
            case atStart => exact ⟨0, cap, ao, by omega, rfl, rfl, hG6, hT6, hO6, by have : lastQ ls 0 = z := by { unfold lastQ; rw [hz]; simp }; rw [this]; exact hL6, hF6, fun x hx => by have := Hdj.out x hx; omega⟩
            case round =>
              clear hG6 hT6 hO6 hL6
              obtain ⟨q, cap, ao, hq, rfl, rfl, hG, hT, hO1, hL1, hFr, hdj⟩ := hrel
              rename World => wr
              by_cases hqm : q < m
              · have hlq : lastQ ls q = 0 ∨ lastQ ls q = 1 := by have := Hz2.out; unfold lastQ; rw [hz]; repeat' split
                                                                 all_goals omega
                have Ht := Lib.hid (show turnL ow (lastQ ls q) = Q.senderT ls q ∧ lastQ ls (q + 1) = Q.senderT ls q by rw [← how]; exact turn_last ls q)
                have HTu := Lib.hid (turn_any bO bL ow (lastQ ls q) hlq wr hO1 hL1)
                rw [Ht.out.1] at HTu
                have Hm := Lib.hid (show (Q.msgsT ls m)[k + q]? = some (Q.senderT ls q, []) by have := Q.msgsT_ge ls m hqm; rwa [Hll.out] at this)
                have hs01 := Q.senderT_two h2.two q
                have hfl : flagsT ((Q.msgsT ls m).take (k + q + 1)) = flagsT ls := by rw [flagsT_msgs, List.take_of_length_le (by rw [Hll.out]; omega)]
                have Hlev := Lib.hid (show (Q.levelsT ls m).take (k + q + 1) = (Q.levelsT ls m).take (k + q) ++ [Q.gradeT (Q.msgsT ls m) (k + q) (Q.senderT ls q)] by
                  rw [Q.levelsT_take ls m (k + q) (by rw [Hll.out]; omega)]
                  unfold Q.fromT
                  rw [List.getElem?_eq_none (by rw [Hll.out]; omega), Hll.out, Nat.add_sub_cancel_left])
                rw [← hfl] at hT
                have HG := Lib.hid (fun w' (h : TellK w' bt (Q.msgsT ls m) (k + q) (flagsT ((Q.msgsT ls m).take (k + q + 1)))) => grade_step bt (Q.msgsT ls m) (k + q) (Q.senderT ls q) [] Hm.out hs01 w' h)
                have Hfl := Lib.hid hfl
                have HO1 := Lib.hid hO1
                clear hlq hfl hO1 hL1 Hm
                generalize Q.gradeT (Q.msgsT ls m) (k + q) (Q.senderT ls q) = g at *
                generalize Q.senderT ls q = s at *
                go_wp2_with fail
                (with_reducible refine HTu.out.mono ?_)
                rintro e w7 ⟨rfl, hF7, hL7⟩
                have hT7 := hT.fr hF7 (by simp only [List.mem_singleton]; omega)
                have hG7 := hG.fr hF7 (fun x hx hq => by simp only [List.mem_singleton] at hq; exact (hdj x hx).1 hq)
                have HO7 := Lib.hid (HO1.out.fr hF7 (by simp only [List.mem_singleton]; omega))
                have hFr7 := hFr.step hF7 (fun x hx => .inr (by simp only [List.mem_singleton] at hx; omega))
                have HGc := Lib.hid (HG.out w7 hT7)
                clear hT hG hFr hT7 hF7 HG HTu HO1
                go_wp2_with fail
                (with_reducible refine HGc.out.mono ?_)
                rintro e w8 ⟨rfl, hF8, hT8⟩
                have hG8 := hG7.fr hF8 (fun x hx hq => by simp only [List.mem_singleton] at hq; have := (hG7.lt x hx).1; omega)
                have HO8 := Lib.hid (HO7.out.fr hF8 (by simp only [List.mem_singleton]; omega))
                have HL8 := Lib.hid (hL7.fr hF8 (by simp only [List.mem_singleton]; omega))
                have hFr8 := hFr7.trans hF8
                rw [Hfl.out] at hT8
                have hcap : k + q + 1 ≤ 1000000 := by omega
                have hB8 : w3.heap.size ≤ w8.heap.size := hFr8.size
                clear hG7 hFr7 HGc hF8 hL7
                go_wp2_with (at_builtin; refine wpList_gr1 rfl (.tmp 83) (.tmp 88) rfl rfl hG8 g rfl (by simp) hcap hB8 ?_; intro ao2 cap2 w9 ha)
                have Hfin := Lib.hid (show GrO w9 w3.heap.size ao2 (k + q + 1) cap2 ((Q.levelsT ls m).take (k + q + 1)) ∧ TellK w9 bt (Q.msgsT ls m) (k + q + 1) (flagsT ls) ∧ One1 w9 bO (.bool ow) ∧ One1 w9 bL (iv (lastQ ls (q + 1))) ∧ Fr [bt] w3 w9 ∧ ∀ x ∈ blkL ao2, x ≠ bL ∧ x ≠ bO from
                  ⟨by rw [Hlev.out]; exact ha.own, hT8.fr ha.fr (fun hq => by have := (hG8.lt bt hq).1; omega), HO8.out.fr ha.fr (fun hq => (hdj bO hq).2 rfl), by rw [Ht.out.2]; exact HL8.out.fr ha.fr (fun hq => (hdj bL hq).1 rfl),
                    hFr8.step ha.fr (fun x hx => .inr (hG8.lt x hx).1), fun x hx => by
                      rcases ha.new x hx with h | h
                      · exact hdj x h
                      · have := World.block_lt_of_cell? _ _ HO8.out.c; simp only at this; omega⟩)
                clear ha hG8 hT8 hFr8 hdj
                go_roundw
                case rel => exact ⟨q + 1, cap2, ao2, by omega, by go_num, rfl, Hfin.out⟩
                case measure => simp [intOf]; omega
              · obtain rfl : q = m := by omega
                have HK := Lib.hid ((Fr.of_kp HK3.out).step hFr (fun x hx => .inr (by simp only [List.mem_singleton] at hx; omega))).kp
                have hall : (Q.levelsT ls q).take (k + q) = Q.levelsT ls q := List.take_of_length_le (by rw [Q.levelsT_length, Hll.out]; exact Nat.le_refl _)
                rw [hall] at hG
                have HG := Lib.hid (show GrO wr w.heap.size ao (k + q) cap (Q.levelsT ls q) from ⟨hG.1.mono (fun x hx => by have := (hG.1.lt x hx).1; have := HK3.out.size; omega), hG.2⟩)
                clear hG hT hO1 hL1 hFr hdj hall
                go_wp2_with fail
                show bodyPost Tryz.prog Tryz.f15 (LevelsPost w E EA b0 b1 ls q) .ret _ _
                refine bodyPost_ret (v := .tuple #[.slice ao (k + q) cap, .nilIface]) (by simp [results, Tryz.results15, go_sem]) rfl ?_
                exact LevelsPost.fine HK.out Hc.out hm64 HG.out
  · have Hc := Lib.hid hc
    have HCc := HC.out
    rw [errV_ptr E hc] at HCc
    have HCn := Lib.hid HCc
    clear hc HCc HC hlb
    go_wp2_with fail
    (with_reducible refine HCn.out.mono ?_)
    rintro e w1 ⟨rfl, hk1⟩
    clear y0 y1 y2 y3
    have HP := Lib.hid (LevelsPost.off (E := E) (EA := EA) (more := more) (Kp.trans Hkb.out hk1) Hc.out)
    rw [errV_ptr E Hc.out] at HP
    clear hk1
    go_wp2_with fail
    show bodyPost Tryz.prog Tryz.f15 (LevelsPost w E EA b0 b1 ls more) .ret _ _
    refine bodyPost_ret (v := .tuple #[.slice none 0 0, .iface 229 (.pointer (some (E (checkL b0 b1 ls))))]) (by simp [results, Tryz.results15, go_sem]) rfl ?_
    exact HP.out
end Go.Proofs.YtkmejehhdjdlbaaGreatDoor
