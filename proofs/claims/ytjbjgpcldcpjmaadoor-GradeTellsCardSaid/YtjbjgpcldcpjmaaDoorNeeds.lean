/- GradeNeeds: the walk. Conditions: the pattern lies there; the library's variable and the errors too. -/
import Derived.Test.YtjbjgpcldcpjmaaDoorGa6
import Derived.Test.YtjbjgpcldcpjmaaDoorGa3
import Derived.Test.YtjbjgpcldcpjmaaDoorLawD
import Derived.Test.YtjbjgpcldcpjmaaDoorGa1
namespace Go.Proofs.YtjbjgpcldcpjmaaDoor
open Go.RowKit

/-- What the region reads. -/
def HeldN (bx : Nat) (nm : ByteArray) (a0 a1 al : Option Addr) (n0 c0 n1 c1 nl cl : Nat) (b off : Nat) (s d : Int) (w : World) : Prop :=
  Bx w bx nm a0 a1 al n0 c0 n1 c1 nl cl ∧ w.cell? ⟨b, off + 1, none⟩ = some (iv s) ∧ w.cell? ⟨b, off + 2, none⟩ = some (iv d)
theorem HeldN.kp {bx : Nat} {nm : ByteArray} {a0 a1 al : Option Addr} {n0 c0 n1 c1 nl cl : Nat} {b off : Nat} {s d : Int} {w w' : World} (h : HeldN bx nm a0 a1 al n0 c0 n1 c1 nl cl b off s d w) (k : Kp w w') : HeldN bx nm a0 a1 al n0 c0 n1 c1 nl cl b off s d w' :=
  ⟨h.1.kp k, k.cell h.2.1, k.cell h.2.2⟩
theorem has3_one (T : List Ln) (a : Int) : has3 T a a a = Q.hasT T a := by unfold has3; cases Q.hasT T a <;> rfl
theorem has3_two (T : List Ln) (a b : Int) : has3 T a b a = (Q.hasT T a || Q.hasT T b) := by unfold has3; cases Q.hasT T a <;> cases Q.hasT T b <;> rfl
/-- What Source and Dest are, by what stands. -/
theorem src_cases (T : List Ln) (f : Int) : (Q.hasT T (Q.staticT f) = true ∧ Q.srcT T f = 2) ∨ (Q.hasT T (Q.staticT f) = false ∧ Q.hasT T 6 = true ∧ Q.srcT T f = 1) ∨ (Q.hasT T (Q.staticT f) = false ∧ Q.hasT T 6 = false ∧ Q.srcT T f = 0) := by
  unfold Q.srcT
  cases Q.hasT T (Q.staticT f) <;> cases Q.hasT T 6 <;> simp
theorem dst_cases (ls : List Ln) (k : Nat) (f : Int) : (Q.hasT (ls.take (k + 1)) 3 = false ∧ Q.hasT (ls.take (k + 1)) (Q.staticT (1 - f)) = false ∧ Q.dstR ls k f = 0) ∨ (Q.hasT (ls.take (k + 1)) 3 = true ∧ Q.hasT (ls.take (k + 1)) (Q.staticT (1 - f)) = false ∧ Q.dstR ls k f = 1) ∨
    (Q.hasT (ls.take (k + 1)) 3 = false ∧ Q.hasT (ls.take (k + 1)) (Q.staticT (1 - f)) = true ∧ Q.dstR ls k f = 2) ∨ (Q.hasT (ls.take (k + 1)) 3 = true ∧ Q.hasT (ls.take (k + 1)) (Q.staticT (1 - f)) = true ∧ 3 ≤ Q.dstR ls k f) := by
  have hb := bestR_range ls f k
  unfold Q.dstR
  cases Q.hasT (ls.take (k + 1)) 3 <;> cases Q.hasT (ls.take (k + 1)) (Q.staticT (1 - f)) <;> simp <;> omega

set_option maxRecDepth 100000 in
set_option maxHeartbeats 8000000 in
theorem needs_any (w : World) (E : Nat → Addr) (mx : Int) (hV : Env w E mx) (more : Int) (nm : ByteArray) (a0 a1 al : Option Addr) (n0 c0 n1 c1 nl cl : Nat) (b0 b1 : List Int) (ls : List Ln) (hP : PatI w a0 a1 al n0 n1 nl b0 b1 ls) :
    Calls Tryd.prog 5 #[patV nm a0 a1 al n0 c0 n1 c1 nl cl, iv more] w fun e w' => e = .returned (.bool true) ∧ Kp w w' := by
  have Hll := Lib.hid hP.il.1
  have hkb := Kp.new w (.cells #[.string nm, .slice a0 n0 c0, .slice a1 n1 c1, .slice al nl cl] 26)
  have hB := Bx.new w nm a0 a1 al n0 c0 n1 c1 nl cl
  obtain ⟨wb, hwb⟩ : ∃ wb, wb = w.alloc (.cells #[.string nm, .slice a0 n0 c0, .slice a1 n1 c1, .slice al nl cl] 26) := ⟨_, rfl⟩
  rw [← hwb] at hkb hB
  obtain ⟨bx, hbx⟩ : ∃ bx, bx = w.heap.size := ⟨_, rfl⟩
  rw [← hbx] at hB
  have HV := Lib.hid (hV.keep hkb)
  have HP := Lib.hid (hP.kp hkb)
  have HLg := Lib.hid (long_any wb nm a0 a1 al n0 c0 n1 c1 nl cl b0 b1 ls HP.out.i0 HP.out.i1 HP.out.il)
  have HKn := Lib.hid (fun w' (h : Kp wb w') => knownG_any w' E mx (HV.out.keep h))
  have Hkb := Lib.hid hkb
  have HB := Lib.hid hB
  obtain ⟨y0, y1, y2, y3⟩ := hB
  clear hV hP hkb
  go_enter Tryd.func5, Tryd.ntmps5
  go_upto_region 1 with fail
  rw [← hwb, ← hbx]
  clear hwb hbx
  go_wp2_with fail
  (with_reducible refine HLg.out.mono ?_)
  rintro e w1 ⟨bl, rfl, hk1, hsh⟩
  have Hsh := Lib.hid hsh
  clear hsh y0 y1 y2 y3
  cases bl with
  | true =>
    go_wp2_with fail
    go_ret
    exact ⟨rfl, Kp.trans Hkb.out hk1⟩
  | false =>
    have hnl : nl ≤ 200 := (Hsh.out rfl).2.2.1
    obtain ⟨y0, y1, y2, y3⟩ := HB.out.kp hk1
    by_cases hc : codeL b0 b1 ls more = 0
    · obtain ⟨hck, m, rfl, hm⟩ := codeL_zero hc
      have h2 := two_of_check hck
      have HLv := Lib.hid (levels_fine (HV.out.keep hk1) (HP.out.kp hk1) (by omega) nm c0 c1 cl m hm hck)
      clear hc hck
      go_wp2_with fail
      (with_reducible refine HLv.out.mono ?_)
      rintro e w2 ⟨hk2, ao, n, cap, rfl, hG⟩
      clear y0 y1 y2 y3
      have hk12 := Kp.trans hk1 hk2
      have HG := Lib.hid hG.grs
      have Hn := Lib.hid (show ls.length + m = n by have := hG.2; rwa [Q.levelsT_length] at this)
      have hn : n ≤ 300 := by have := Hn.out; have := Hll.out; omega
      have HF := Lib.hid (fun w' (h : Kp w2 w') i (hi : i ≤ 100000) => from_any w' nm a0 a1 al n0 c0 n1 c1 nl cl ls ((Kp.trans hk12 h).lns HP.out.il) h2.pos h2.two i hi)
      have HH := Lib.hid (fun w' (h : Kp w2 w') i (hi : i ≤ 100000) => has3_any w' nm a0 a1 al n0 c0 n1 c1 nl cl ls ((Kp.trans hk12 h).lns HP.out.il) i hi)
      have HB2 := Lib.hid (HB.out.kp hk12)
      have Hk12 := Lib.hid hk12
      clear hG hk1 hk2 hk12 HLv
      go_wp2_with fail
      obtain ⟨w20, hw20⟩ : ∃ w20 : World, w20 = w2 := ⟨_, rfl⟩
      rw [← hw20] at HF HH HB2 HG Hk12
      go_loopw [7] (fun i wr => ∃ k : Nat, k ≤ n ∧ i = .int .i64 (k : Nat) ∧ Kp w20 wr) (fun i _ => n - (intOf i).toNat)
      case atStart => exact ⟨0, by omega, rfl, hw20 ▸ Kp.refl _⟩
      case round =>
        obtain ⟨k, hk, rfl, hkr⟩ := hrel
        rename World => wr
        by_cases hlt : k < n
        · have hkg : k < (Q.levelsT ls m).length := by rw [Q.levelsT_length]; have := Hn.out; omega
          have hge : (Q.levelsT ls m)[k] = Q.gradeR ls k := by
            have := Q.levelsT_at h2.two m k (by have := Hn.out; omega)
            rw [List.getElem?_eq_getElem hkg] at this
            exact Option.some.inj this
          obtain ⟨b, off, rfl, _, hcl⟩ := HG.out.at k hlt
          obtain ⟨x0, x1, x2⟩ := hcl k hkg
          rw [hge] at x1 x2
          have hsc := src_cases (ls.take (k + 1)) (Q.fromT ls k)
          have hdc := dst_cases ls k (Q.fromT ls k)
          have hf := Q.fromT_two h2.two k
          have HFk := Lib.hid (fun w' (h : Kp w20 w') => HF.out w' h k (by omega))
          have HHk := Lib.hid (fun w' (h : Kp w20 w') => HH.out w' h k (by omega))
          have Hx := Lib.hid (show w20.cell? ⟨b, off + k * 3 + 1, none⟩ = some (iv (Q.srcT (ls.take (k + 1)) (Q.fromT ls k))) ∧ w20.cell? ⟨b, off + k * 3 + 2, none⟩ = some (iv (Q.dstR ls k (Q.fromT ls k))) from ⟨x1, x2⟩)
          clear x0 x1 x2 hcl hge hkg
          generalize ls.take (k + 1) = T at *
          generalize Q.fromT ls k = f at *
          generalize Q.srcT T f = s at *
          generalize Q.dstR ls k f = d at *
          have Hdc := Lib.hid hdc
          obtain ⟨X1, X2, e1, e2, h18a, h18b⟩ : ∃ X1 X2 : Bool, decide (0 < s) = X1 ∧ (s == 2) = X2 ∧ has3 T (Q.staticT f) 6 (Q.staticT f) = X1 ∧ has3 T (Q.staticT f) (Q.staticT f) (Q.staticT f) = X2 := by
            rcases hsc with ⟨hA, rfl⟩ | ⟨hA, h6, rfl⟩ | ⟨hA, h6, rfl⟩
            · exact ⟨true, true, rfl, rfl, by rw [has3_two, hA]; rfl, by rw [has3_one, hA]⟩
            · exact ⟨true, false, rfl, rfl, by rw [has3_two, hA, h6]; rfl, by rw [has3_one, hA]⟩
            · exact ⟨false, false, rfl, rfl, by rw [has3_two, hA, h6]; rfl, by rw [has3_one, hA]⟩
          have H1 := Lib.hid (fun w' (h : Kp w20 w') => HHk.out w' h (Q.staticT f) 6 (Q.staticT f))
          have H2 := Lib.hid (fun w' (h : Kp w20 w') => HHk.out w' h (Q.staticT f) (Q.staticT f) (Q.staticT f))
          rw [h18a] at H1
          rw [h18b] at H2
          clear hsc hdc h18a h18b
          obtain ⟨y0, y1, y2, y3⟩ := HB2.out.kp hkr
          go_upto_region 11 with fail
          go_wp2_with fail
          (with_reducible refine (HFk.out wr hkr).mono ?_)
          rintro e w3 ⟨rfl, hk3⟩
          clear y0 y1 y2 y3
          have hk3 := Kp.trans hkr hk3
          clear hkr
          go_upto_if 37 with fail
          go_cut [8, 9] (fun u v wc => u = iv (Q.staticT f) ∧ v = iv (Q.staticT (1 - f)) ∧ w3 = wc)
          case first =>
            rcases hf with rfl | rfl
            · go_wp2_with fail
              go_meet
              case rel => exact ⟨rfl, rfl, rfl⟩
            · go_wp2_with fail
              go_meet
              case rel => exact ⟨rfl, rfl, rfl⟩
          case rest =>
            obtain ⟨rfl, rfl, rfl⟩ := hcut
            generalize hmine : Q.staticT f = mine at *
            generalize hthine : Q.staticT (1 - f) = thine at *
            clear hmine hthine hf
            go_upto_region 14 with fail
            have hH : HeldN bx nm a0 a1 al n0 c0 n1 c1 nl cl b (off + k * 3) s d w3 := ⟨HB2.out.kp hk3, hk3.cell Hx.out.1, hk3.cell Hx.out.2⟩
            refine anyH_start (HeldN bx nm a0 a1 al n0 c0 n1 c1 nl cl b (off + k * 3) s d) (by kernel_rfl) ?_
            have hkd : Kp w3 w3.drew := ⟨rfl, rfl, rfl, Nat.le_refl _, fun _ _ => rfl⟩
            generalize w3.drew = wd at *
            replace hH := hH.kp hkd
            have hkd := Kp.trans hk3 hkd
            have HH1 := Lib.hid hH
            refine anyH_take [0, 1, 2, 3] (by kernel_rfl) hH ?_
            simp only [opsAt, List.getElem?_toArray, List.getElem?_cons_zero, List.getElem?_cons_succ]
            repeat (go_big_quiet_step (fail))
            refine wpQuiet_nil ?_
            refine anyH_load 4 42 (iv s) rfl rfl (by kernel_rfl) hH (fun w h => exec_load3 h.2.1 rfl rfl) ?_
            simp only [Act.put, List.setIfInBounds_toArray, List.set_cons_zero, List.set_cons_succ]
            refine anyH_load 6 44 (patV nm a0 a1 al n0 c0 n1 c1 nl cl) rfl rfl (by kernel_rfl) hH (fun w h => exec_loadB h.1 rfl rfl) ?_
            simp only [Act.put, List.setIfInBounds_toArray, List.set_cons_zero, List.set_cons_succ]
            refine anyH_take [5, 7, 8, 9] (by kernel_rfl) hH ?_
            simp only [opsAt, List.getElem?_toArray, List.getElem?_cons_zero, List.getElem?_cons_succ]
            repeat (go_big_quiet_step (fail))
            refine wpQuiet_nil ?_
            refine anyH_one 10 (by kernel_rfl) ?_
            simp only [opsAt, List.getElem?_toArray, List.getElem?_cons_zero, List.getElem?_cons_succ]
            clear hH
            go_wp2_with fail
            (with_reducible refine (H1.out wd hkd).mono ?_)
            rintro e w4 ⟨rfl, hk4⟩
            go_wp2_with fail
            have hH4 := HH1.out.kp hk4
            have hkd4 := Kp.trans hkd hk4
            refine ⟨hH4, ?_⟩
            refine anyH_take [11, 12, 13, 14, 15, 16] (by kernel_rfl) hH4 ?_
            simp only [opsAt, List.getElem?_toArray, List.getElem?_cons_zero, List.getElem?_cons_succ]
            repeat (go_big_quiet_step (fail))
            refine wpQuiet_nil ?_
            refine anyH_loadG 17 55 (iv s) rfl rfl (by kernel_rfl) rfl hH4 (fun w h => exec_load3 h.2.1 rfl rfl) ?_
            simp only [Act.put, List.setIfInBounds_toArray, List.set_cons_zero, List.set_cons_succ]
            refine anyH_take [18] (by kernel_rfl) hH4 ?_
            simp only [opsAt, List.getElem?_toArray, List.getElem?_cons_zero, List.getElem?_cons_succ]
            repeat (go_big_quiet_step (fail))
            refine wpQuiet_nil ?_
            refine anyH_loadG 19 57 (patV nm a0 a1 al n0 c0 n1 c1 nl cl) rfl rfl (by kernel_rfl) rfl hH4 (fun w h => exec_loadB h.1 rfl rfl) ?_
            simp only [Act.put, List.setIfInBounds_toArray, List.set_cons_zero, List.set_cons_succ]
            refine anyH_take [20, 21, 22, 23] (by kernel_rfl) hH4 ?_
            simp only [opsAt, List.getElem?_toArray, List.getElem?_cons_zero, List.getElem?_cons_succ]
            repeat (go_big_quiet_step (fail))
            refine wpQuiet_nil ?_
            refine anyH_one 24 (by kernel_rfl) ?_
            simp only [opsAt, List.getElem?_toArray, List.getElem?_cons_zero, List.getElem?_cons_succ]
            clear hH4
            go_wp2_with fail
            (with_reducible refine (H2.out w4 hkd4).mono ?_)
            rintro e w5 ⟨rfl, hk5⟩
            go_wp2_with fail
            have hH5 := (HH1.out.kp hk4).kp hk5
            have hkd5 := Kp.trans hkd4 hk5
            refine ⟨hH5, ?_⟩
            refine anyH_take [25, 26] (by kernel_rfl) hH5 ?_
            simp only [opsAt, List.getElem?_toArray, List.getElem?_cons_zero, List.getElem?_cons_succ]
            repeat (go_big_quiet_step (fail))
            refine wpQuiet_nil ?_
            refine anyH_end (by kernel_rfl) ?_
            clear e1 e2 hk3 hkd hkd4 hk4 hk5 H1 H2
            have HH5 := Lib.hid hH5
            obtain ⟨⟨y0, y1, y2, y3⟩, _, _⟩ := hH5
            have H3 := Lib.hid (fun w' (h : Kp w20 w') => HHk.out w' h 3 3 3)
            have H4 := Lib.hid (fun w' (h : Kp w20 w') => HHk.out w' h thine thine thine)
            rw [has3_one] at H3 H4
            generalize Q.hasT T 3 = ee at *
            generalize Q.hasT T thine = tt at *
            go_wp2_with fail
            (with_reducible refine (H3.out w5 hkd5).mono ?_)
            rintro e w6 ⟨rfl, hk6⟩
            clear y0 y1 y2 y3
            have hkd6 := Kp.trans hkd5 hk6
            have HH6 := Lib.hid (HH5.out.kp hk6)
            obtain ⟨⟨y0, y1, y2, y3⟩, _, _⟩ := HH6.out
            go_wp2_with fail
            (with_reducible refine (H4.out w6 hkd6).mono ?_)
            rintro e w7 ⟨rfl, hk7⟩
            clear y0 y1 y2 y3
            have hkd7 := Kp.trans hkd6 hk7
            obtain ⟨_, _, z2⟩ := HH6.out.kp hk7
            clear hkd5 hkd6 hk6 hk7
            rcases Hdc.out with ⟨h3, h4, hd⟩ | ⟨h3, h4, hd⟩ | ⟨h3, h4, hd⟩ | ⟨h3, h4, hd⟩
            · subst h3; subst h4; subst hd
              go_wp2_with fail
              go_roundw
              case rel => exact ⟨k + 1, by omega, by go_num, hkd7⟩
              case measure => simp [intOf]; omega
            · subst h3; subst h4; subst hd
              go_wp2_with fail
              go_roundw
              case rel => exact ⟨k + 1, by omega, by go_num, hkd7⟩
              case measure => simp [intOf]; omega
            · subst h3; subst h4; subst hd
              go_wp2_with fail
              go_roundw
              case rel => exact ⟨k + 1, by omega, by go_num, hkd7⟩
              case measure => simp [intOf]; omega
            · subst h3; subst h4
              have d1 : decide (2 ≤ d) = true := by simp; omega
              have d2 : decide (3 ≤ d) = true := by simp; omega
              have d3 : (d == 1) = false := by simp; omega
              go_wp2_with fail
              go_roundw
              case rel => exact ⟨k + 1, by omega, by go_num, hkd7⟩
              case measure => simp [intOf]; omega
        · have hkn := (HKn.out wr (Kp.trans Hk12.out hkr))
          have HKr := Lib.hid hkn
          have HKf := Lib.hid (Kp.trans Hkb.out (Kp.trans Hk12.out hkr))
          clear hkn hkr
          go_wp2_with fail
          (with_reducible refine HKr.out.mono ?_)
          rintro e wz ⟨rfl, hkz⟩
          go_wp2_with fail
          go_ret
          exact ⟨rfl, Kp.trans HKf.out hkz⟩
    · have HLv := Lib.hid (levels_bad (HV.out.keep hk1) (HP.out.kp hk1) (by omega) nm c0 c1 cl more hc)
      clear hc
      generalize codeL b0 b1 ls more = cc at *
      go_wp2_with fail
      (with_reducible refine HLv.out.mono ?_)
      rintro e w2 ⟨hk2, rfl⟩
      clear y0 y1 y2 y3
      have hk12 := Kp.trans hk1 hk2
      go_wp2_with fail
      (with_reducible refine (HKn.out w2 hk12).mono ?_)
      rintro e w3 ⟨rfl, hk3⟩
      go_wp2_with fail
      go_ret
      exact ⟨rfl, Kp.trans Hkb.out (Kp.trans hk12 hk3)⟩
end Go.Proofs.YtjbjgpcldcpjmaaDoor
