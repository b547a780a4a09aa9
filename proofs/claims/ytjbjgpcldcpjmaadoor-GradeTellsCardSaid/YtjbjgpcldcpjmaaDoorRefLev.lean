/- The document's list of grades. Condition: the pattern lies there (Is, Lns). -/
import Derived.Test.YtjbjgpcldcpjmaaDoorGa4
import Derived.Test.YtjbjgpcldcpjmaaDoorRefCheck
import Derived.Test.YtjbjgpcldcpjmaaDoorGa3
namespace Go.Proofs.YtjbjgpcldcpjmaaDoor
open Go.RowKit

theorem shaped_of_check {b0 b1 : List Int} {ls : List Ln} (h : checkL b0 b1 ls = 0) : shapedL b0 b1 ls = true := by
  unfold checkL at h
  cases hs : shapedL b0 b1 ls with
  | true => rfl
  | false => rw [hs] at h; simp at h
theorem two_of_check {b0 b1 : List Int} {ls : List Ln} (h : checkL b0 b1 ls = 0) : Sided ls := by
  have hs := shapedL_mem (shaped_of_check h)
  refine ⟨hs.2.2.1, fun l hl => ?_⟩
  obtain ⟨j, hj, rfl⟩ := List.getElem_of_mem hl
  exact (hs.2.2.2 j hj).1
/-- The first k grades. -/
def gradesT (ls : List Ln) (k : Nat) : List Gr := (List.range k).map (Q.gradeR ls)
theorem gradesT_succ (ls : List Ln) (k : Nat) : gradesT ls (k + 1) = gradesT ls k ++ [Q.gradeR ls k] := by
  unfold gradesT
  rw [List.range_succ, List.map_append]; rfl
theorem levelsT_eq {ls : List Ln} (h : Sided ls) (more : Nat) : Q.levelsT ls more = gradesT ls (ls.length + more) := by
  refine List.ext_getElem? fun i => ?_
  rcases Nat.lt_or_ge i (ls.length + more) with q | q
  · rw [Q.levelsT_at h.two more i q]
    unfold gradesT
    simp [q]
  · rw [List.getElem?_eq_none (by rw [Q.levelsT_length]; exact q), List.getElem?_eq_none (by simp [gradesT]; exact q)]
def RLevelsPost (w : World) (b0 b1 : List Int) (ls : List Ln) (more : Int) (e : Ending) (w' : World) : Prop := Kp w w' ∧
  if checkL b0 b1 ls = 0 then
    if more < 0 ∨ 64 < more then e = .returned (.tuple #[.slice none 0 0, iv 1])
    else ∃ ao n cap, e = .returned (.tuple #[.slice ao n cap, iv 0]) ∧ GrO w' w.heap.size ao n cap (Q.levelsT ls more.toNat)
  else e = .returned (.tuple #[.slice none 0 0, iv (checkL b0 b1 ls : Nat)])
theorem RLevelsPost.off {w w' : World} {b0 b1 : List Int} {ls : List Ln} {more : Int} (hk : Kp w w') (h : ¬ checkL b0 b1 ls = 0) :
    RLevelsPost w b0 b1 ls more (.returned (.tuple #[.slice none 0 0, iv (checkL b0 b1 ls : Nat)])) w' := ⟨hk, by rw [if_neg h]⟩
theorem RLevelsPost.arg {w w' : World} {b0 b1 : List Int} {ls : List Ln} {more : Int} (hk : Kp w w') (h : checkL b0 b1 ls = 0) (hm : more < 0 ∨ 64 < more) :
    RLevelsPost w b0 b1 ls more (.returned (.tuple #[.slice none 0 0, iv 1])) w' := ⟨hk, by rw [if_pos h, if_pos hm]⟩
theorem RLevelsPost.fine {w w' : World} {b0 b1 : List Int} {ls : List Ln} {m : Nat} {ao : Option Addr} {n cap : Nat} (hk : Kp w w') (h : checkL b0 b1 ls = 0) (hm : m ≤ 64) (hO : GrO w' w.heap.size ao n cap (Q.levelsT ls m)) :
    RLevelsPost w b0 b1 ls (m : Int) (.returned (.tuple #[.slice ao n cap, iv 0])) w' := ⟨hk, by rw [if_pos h, if_neg (by omega)]; exact ⟨ao, n, cap, rfl, by simpa using hO⟩⟩

set_option maxRecDepth 100000 in
set_option maxHeartbeats 4000000 in
theorem refLevels_any (w : World) (more : Int) (nm : ByteArray) (a0 a1 al : Option Addr) (n0 c0 n1 c1 nl cl : Nat) (b0 b1 : List Int) (ls : List Ln) (h0 : Is w a0 n0 b0) (h1 : Is w a1 n1 b1) (hl : Lns w al nl ls) (hnl : nl ≤ 50000) :
    Calls Tryd.prog 11 #[patV nm a0 a1 al n0 c0 n1 c1 nl cl, iv more] w (RLevelsPost w b0 b1 ls more) := by
  have Hll := Lib.hid hl.1
  have hkb := Kp.new w (.cells #[.string nm, .slice a0 n0 c0, .slice a1 n1 c1, .slice al nl cl] 26)
  have hB := Bx.new w nm a0 a1 al n0 c0 n1 c1 nl cl
  obtain ⟨wb, hwb⟩ : ∃ wb, wb = w.alloc (.cells #[.string nm, .slice a0 n0 c0, .slice a1 n1 c1, .slice al nl cl] 26) := ⟨_, rfl⟩
  rw [← hwb] at hkb hB
  obtain ⟨bx, hbx⟩ : ∃ bx, bx = w.heap.size := ⟨_, rfl⟩
  rw [← hbx] at hB
  have hlb := hkb.lns hl
  have HC := refCheck_any wb nm a0 a1 al n0 c0 n1 c1 nl cl b0 b1 ls (hkb.is h0) (hkb.is h1) hlb
  rw [checkR_eq] at HC
  have HC := Lib.hid HC
  have Hkb := Lib.hid hkb
  have HB := Lib.hid hB
  obtain ⟨y0, y1, y2, y3⟩ := hB
  clear h0 h1 hl hkb
  go_enter Tryd.func11, Tryd.ntmps11
  go_upto_region 1 with fail
  rw [← hwb, ← hbx]
  clear hwb hbx
  by_cases hc : checkL b0 b1 ls = 0
  · have Hc := Lib.hid hc
    have HCc := HC.out
    rw [hc] at HCc
    have HCn := Lib.hid HCc
    have h2 := two_of_check hc
    clear hc HCc HC
    go_wp2_with fail
    (with_reducible refine HCn.out.mono ?_)
    rintro e w1 ⟨rfl, hk1⟩
    rw [show ((0 : Nat) : Int) = 0 from rfl]
    clear y0 y1 y2 y3
    by_cases hm : more < 0 ∨ 64 < more
    · have Hm := Lib.hid hm
      have HK := Lib.hid (Kp.trans Hkb.out hk1)
      clear hlb h2
      rcases hm with hm | hm
      · go_wp2_with fail
        show bodyPost Tryd.prog Tryd.f11 (RLevelsPost w b0 b1 ls more) .ret _ _
        refine bodyPost_ret (v := .tuple #[.slice none 0 0, iv 1]) (by simp [results, Tryd.results11, go_sem]) rfl ?_
        exact RLevelsPost.arg HK.out Hc.out Hm.out
      · have hm0 : ¬ more < 0 := by omega
        go_wp2_with fail
        show bodyPost Tryd.prog Tryd.f11 (RLevelsPost w b0 b1 ls more) .ret _ _
        refine bodyPost_ret (v := .tuple #[.slice none 0 0, iv 1]) (by simp [results, Tryd.results11, go_sem]) rfl ?_
        exact RLevelsPost.arg HK.out Hc.out Hm.out
    · obtain ⟨m, rfl, hm64⟩ : ∃ m : Nat, more = (m : Int) ∧ m ≤ 64 := ⟨more.toNat, by omega, by omega⟩
      clear hm
      have hlw := hk1.lns hlb
      have hBw := HB.out.kp hk1
      have HLev := Lib.hid (levelsT_eq h2 m)
      have HK1 := Lib.hid (Kp.trans Hkb.out hk1)
      have hs1 : w.heap.size ≤ w1.heap.size := HK1.out.size
      clear hlb hk1 HCn
      go_wp2_with fail
      go_loopw [7, 8] (fun l i wr => ∃ k cap ao, k ≤ nl + m ∧ i = .int .i64 (k : Nat) ∧ l = .slice ao k cap ∧ GrO wr w1.heap.size ao k cap (gradesT ls k) ∧ Kp w1 wr) (fun _ i _ => nl + m - (intOf i).toNat)
      case atStart => exact ⟨0, 0, none, by omega, rfl, rfl, GrO.nil _ _, Kp.refl _⟩
      case round =>
        obtain ⟨k, cap, ao, hk, rfl, rfl, hO, hkr⟩ := hrel
        have hBr := hBw.kp hkr
        by_cases hlt : k < nl + m
        · have HS := Lib.hid (fun w' (h : Kp w1 w') => sender_any w' nm a0 a1 al n0 c0 n1 c1 nl cl ls (h.lns hlw) h2.pos h2.two k (by omega))
          have HR := Lib.hid (fun w' (h : Kp w1 w') => source_any w' nm a0 a1 al n0 c0 n1 c1 nl cl ls (h.lns hlw) h2 k (by omega))
          have HD := Lib.hid (fun w' (h : Kp w1 w') => dest_any w' nm a0 a1 al n0 c0 n1 c1 nl cl ls (h.lns hlw) h2 k (by omega))
          have HBr := Lib.hid hBr
          have hc : ((k : Int) < (nl : Int) + (m : Int)) := by omega
          obtain ⟨y0, y1, y2, y3⟩ := hBr
          go_upto_region 10 with fail
          clear y0 y1 y2 y3 hc
          refine anyH_start (fun w => Bx w bx nm a0 a1 al n0 c0 n1 c1 nl cl) (by kernel_rfl) ?_
          have hkd : Kp wr wr.drew := ⟨rfl, rfl, rfl, Nat.le_refl _, fun _ _ => rfl⟩
          generalize wr.drew = wd at *
          have hBd := HBr.out.kp hkd
          have hOd := hO.keep hkd
          have hk1d := Kp.trans hkr hkd
          clear hkd hO hkr
          refine anyH_load 1 30 (patV nm a0 a1 al n0 c0 n1 c1 nl cl) rfl rfl (by kernel_rfl) hBd (fun w h => exec_loadB h rfl rfl) ?_
          simp only [Act.put, List.setIfInBounds_toArray, List.set_cons_zero, List.set_cons_succ]
          refine anyH_load 4 33 (patV nm a0 a1 al n0 c0 n1 c1 nl cl) rfl rfl (by kernel_rfl) hBd (fun w h => exec_loadB h rfl rfl) ?_
          simp only [Act.put, List.setIfInBounds_toArray, List.set_cons_zero, List.set_cons_succ]
          refine anyH_load 7 36 (patV nm a0 a1 al n0 c0 n1 c1 nl cl) rfl rfl (by kernel_rfl) hBd (fun w h => exec_loadB h rfl rfl) ?_
          simp only [Act.put, List.setIfInBounds_toArray, List.set_cons_zero, List.set_cons_succ]
          refine anyH_take [0, 2, 5, 8] (by kernel_rfl) hBd ?_
          simp only [opsAt, List.getElem?_toArray, List.getElem?_cons_zero, List.getElem?_cons_succ]
          repeat (go_big_quiet_step (fail))
          refine wpQuiet_nil ?_
          have HBd := Lib.hid hBd
          clear hBd
          refine anyH_one 3 (by kernel_rfl) ?_
          simp only [opsAt, List.getElem?_toArray, List.getElem?_cons_zero, List.getElem?_cons_succ]
          go_wp2_with fail
          (with_reducible refine (HS.out wd hk1d).mono ?_)
          rintro e w3 ⟨rfl, hk3⟩
          go_wp2_with fail
          refine ⟨HBd.out.kp hk3, ?_⟩
          refine anyH_one 6 (by kernel_rfl) ?_
          simp only [opsAt, List.getElem?_toArray, List.getElem?_cons_zero, List.getElem?_cons_succ]
          have hk13 := Kp.trans hk1d hk3
          go_wp2_with fail
          (with_reducible refine (HR.out w3 hk13).mono ?_)
          rintro e w4 ⟨rfl, hk4⟩
          go_wp2_with fail
          refine ⟨HBd.out.kp (Kp.trans hk3 hk4), ?_⟩
          refine anyH_one 9 (by kernel_rfl) ?_
          simp only [opsAt, List.getElem?_toArray, List.getElem?_cons_zero, List.getElem?_cons_succ]
          have hk14 := Kp.trans hk13 hk4
          go_wp2_with fail
          (with_reducible refine (HD.out w4 hk14).mono ?_)
          rintro e w5 ⟨rfl, hk5⟩
          go_wp2_with fail
          have hkd5 := Kp.trans (Kp.trans hk3 hk4) hk5
          have hk15 := Kp.trans hk1d hkd5
          have hB5 := HBd.out.kp hkd5
          have hO5 := hOd.keep hkd5
          refine ⟨hB5, ?_⟩
          clear hk3 hk13 hk4 hk14 hk5 hOd hkd5 hk1d HBd
          have hg : Q.gradeR ls k = ⟨Q.fromT ls k, Q.srcT (ls.take (k + 1)) (Q.fromT ls k), Q.dstR ls k (Q.fromT ls k)⟩ := rfl
          have Hgs := Lib.hid (gradesT_succ ls k)
          rw [hg] at Hgs
          clear hg
          generalize Q.srcT (ls.take (k + 1)) (Q.fromT ls k) = gs at *
          generalize Q.dstR ls k (Q.fromT ls k) = gd at *
          generalize Q.fromT ls k = gf at *
          refine anyH_take [10] (by kernel_rfl) hB5 ?_
          simp only [opsAt, List.getElem?_toArray, List.getElem?_cons_zero, List.getElem?_cons_succ]
          repeat (go_big_quiet_step (fail))
          refine wpQuiet_nil ?_
          refine anyH_one 11 (by kernel_rfl) ?_
          simp only [opsAt, List.getElem?_toArray, List.getElem?_cons_zero, List.getElem?_cons_succ]
          go_wp2_with fail
          have hkn := Kp.new w5 (.cells #[iv gf, iv gs, iv gd] 48)
          refine ⟨hB5.kp hkn, ?_⟩
          refine anyH_one 12 (by kernel_rfl) ?_
          simp only [opsAt, List.getElem?_toArray, List.getElem?_cons_zero, List.getElem?_cons_succ]
          have hcap : k + 1 ≤ 1000000 := by omega
          go_wp2_with (at_builtin; refine wpList_gr1 rfl (.tmp 29) (.tmp 40) rfl rfl hO5 ⟨gf, gs, gd⟩ rfl (by simp) hcap hk15.size ?_; intro ao2 cap2 w6 ha)
          have hk16 : Kp w1 w6 := ((Fr.of_kp hk15).step ha.fr (fun j hj => .inr (hO5.lt j hj).1)).kp
          refine ⟨hBw.kp hk16, ?_⟩
          refine anyH_take [13] (by kernel_rfl) (hBw.kp hk16) ?_
          simp only [opsAt, List.getElem?_toArray, List.getElem?_cons_zero, List.getElem?_cons_succ]
          repeat (go_big_quiet_step (fail))
          refine wpQuiet_nil ?_
          refine anyH_end (by kernel_rfl) ?_
          have HO6 := Lib.hid ha.own
          rw [← Hgs.out] at HO6
          clear ha hO5 hkn hB5 hk15
          go_wp2_with fail
          go_roundw
          case rel => exact ⟨k + 1, cap2, ao2, by omega, by go_num, rfl, HO6.out, hk16⟩
          case measure => simp [intOf]; omega
        · obtain rfl : k = nl + m := by omega
          have HK := Lib.hid (Kp.trans HK1.out hkr)
          have hOb : GrO wr w.heap.size ao (nl + m) cap (Q.levelsT ls m) := by
            rw [HLev.out, Hll.out]
            exact ⟨hO.1.mono (fun b hb => by have := (hO.1.lt b hb).1; omega), hO.2⟩
          have HOb := Lib.hid hOb
          clear hO hOb hkr
          obtain ⟨y0, y1, y2, y3⟩ := hBr
          go_wp2_with fail
          show bodyPost Tryd.prog Tryd.f11 (RLevelsPost w b0 b1 ls m) .ret _ _
          refine bodyPost_ret (v := .tuple #[.slice ao (nl + m) cap, iv 0]) (by simp [results, Tryd.results11, go_sem]) rfl ?_
          exact RLevelsPost.fine HK.out Hc.out hm64 HOb.out
  · have Hc := Lib.hid hc
    have hb : ((checkL b0 b1 ls : Int) != 0) = true := by simp; omega
    have hb2 : ¬ ((checkL b0 b1 ls : Int) = 0) := by omega
    clear hc hlb
    go_wp2_with fail
    (with_reducible refine HC.out.mono ?_)
    rintro e w1 ⟨rfl, hk1⟩
    clear y0 y1 y2 y3
    have HP := Lib.hid (RLevelsPost.off (more := more) (Kp.trans Hkb.out hk1) Hc.out)
    clear hk1
    go_wp2_with fail
    show bodyPost Tryd.prog Tryd.f11 (RLevelsPost w b0 b1 ls more) .ret _ _
    refine bodyPost_ret (v := .tuple #[.slice none 0 0, iv (checkL b0 b1 ls : Nat)]) (by simp [results, Tryd.results11, go_sem]) rfl ?_
    exact HP.out
end Go.Proofs.YtjbjgpcldcpjmaaDoor
