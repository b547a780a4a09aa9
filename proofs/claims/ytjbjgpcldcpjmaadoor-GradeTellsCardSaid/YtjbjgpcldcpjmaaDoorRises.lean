/- GradeRises: the walk. Conditions: the pattern lies there; the library's variable and the errors too. -/
import Derived.Test.YtjbjgpcldcpjmaaDoorNeeds
namespace Go.Proofs.YtjbjgpcldcpjmaaDoor
open Go.RowKit

theorem offL_mem (S : Nat → Bool) (f t : Int) (l : Bool) : offL S f t l = 0 ∨ offL S f t l = 10 ∨ offL S f t l = 11 ∨ offL S f t l = 12 := by
  unfold offL
  repeat' split
  all_goals simp
theorem runToks_mem (f : Int) : ∀ (ts : List Int) (S : Nat → Bool), (runToks S f ts).1 = 0 ∨ (runToks S f ts).1 = 10 ∨ (runToks S f ts).1 = 11 ∨ (runToks S f ts).1 = 12
  | [], _ => .inl rfl
  | t :: r, S => by
    unfold runToks
    split
    · exact runToks_mem f r _
    · exact offL_mem S f t _
theorem runLs_mem : ∀ (ls : List Ln) (S : Nat → Bool), (runLs S ls).1 = 0 ∨ (runLs S ls).1 = 10 ∨ (runLs S ls).1 = 11 ∨ (runLs S ls).1 = 12
  | [], _ => .inl rfl
  | l :: r, S => by
    unfold runLs
    split
    · exact runLs_mem r _
    · exact runToks_mem _ _ _
theorem checkL_mem (b0 b1 : List Int) (ls : List Ln) : checkL b0 b1 ls = 0 ∨ checkL b0 b1 ls = 9 ∨ checkL b0 b1 ls = 10 ∨ checkL b0 b1 ls = 11 ∨ checkL b0 b1 ls = 12 := by
  unfold checkL
  split
  · split
    · unfold endL; split <;> simp
    · rcases runLs_mem ls (begunL b0 b1) with h | h | h | h <;> rw [h] <;> simp
  · simp
theorem codeL_mem (b0 b1 : List Int) (ls : List Ln) (more : Int) : codeL b0 b1 ls more = 0 ∨ codeL b0 b1 ls more = 1 ∨ codeL b0 b1 ls more = 9 ∨ codeL b0 b1 ls more = 10 ∨ codeL b0 b1 ls more = 11 ∨ codeL b0 b1 ls more = 12 := by
  have h := checkL_mem b0 b1 ls
  unfold codeL
  by_cases h0 : checkL b0 b1 ls = 0
  · rw [if_pos h0]; split <;> simp
  · rw [if_neg h0]; omega
/-- What is asked of the grades. -/
structure RiseF (gs : List Gr) (ls : List Ln) : Prop where
  frm : ∀ i (h : i < gs.length), gs[i].frm = Q.fromT ls i
  rng : ∀ i (h : i < gs.length), 0 ≤ gs[i].src ∧ gs[i].src ≤ 2 ∧ 0 ≤ gs[i].dst ∧ gs[i].dst ≤ 5
  mono : ∀ k i (h : k < gs.length) (h' : i < gs.length), k < i → gs[k].frm = gs[i].frm → gs[k].src ≤ gs[i].src ∧ gs[k].dst ≤ gs[i].dst
  again : ∀ i (h : i < gs.length), ls.length + 2 ≤ i → gs[i - 2]'(by omega) = gs[i]
theorem rises_of {ls : List Ln} (h2 : Sided ls) (m : Nat) : RiseF (Q.levelsT ls m) ls := by
  have hg : ∀ i (h : i < (Q.levelsT ls m).length), (Q.levelsT ls m)[i] = Q.gradeT (Q.msgsT ls m) i (Q.fromT ls i) := fun i h => by
    have := Q.levelsT_get ls m (k := i) (by rwa [Q.levelsT_length] at h)
    rw [List.getElem?_eq_getElem h] at this
    exact Option.some.inj this
  refine ⟨fun i h => ?_, fun i h => ?_, fun k i h h' hki he => ?_, fun i h hi => ?_⟩
  · rw [hg i h]; rfl
  · rw [hg i h]
    have a := Q.srcT_range ((Q.msgsT ls m).take (i + 1)) (Q.fromT ls i)
    have b := Q.dstT_range (Q.msgsT ls m) i (Q.fromT ls i)
    exact ⟨a.1, a.2, b.1, b.2⟩
  · rw [hg k h, hg i h'] at he ⊢
    have he : Q.fromT ls k = Q.fromT ls i := he
    rw [he]
    exact ⟨Q.srcT_mono _ _ (by omega), Q.dstT_mono _ _ (by omega)⟩
  · have := Q.levelsT_again ls m (by have := h2.pos; intro e; rw [e] at this; simp at this) h2.two hi (by rwa [Q.levelsT_length] at h)
    rw [List.getElem?_eq_getElem h, List.getElem?_eq_getElem (by omega)] at this
    exact Option.some.inj this
theorem Grs.take {w : World} {ao : Option Addr} {n : Nat} {gs : List Gr} (h : Grs w ao n gs) (k : Nat) (hk : k ≤ n) : Grs w ao k (gs.take k) := by
  refine ⟨by rw [List.length_take, h.1]; omega, Nat.le_trans hk h.2.1, fun j u hu => ?_⟩
  have : (gs.take k).flatMap grc = (gs.flatMap grc).take (k * 3) := by
    clear h hu
    induction gs generalizing k with
    | nil => simp
    | cons g r ih =>
      rcases k with _ | k
      · simp
      · rw [List.take_succ_cons, List.flatMap_cons, List.flatMap_cons]
        rcases Nat.lt_or_ge n k with hq | hq
        · rw [show (k + 1) * 3 = (grc g).length + k * 3 by simp only [grc, List.length_cons, List.length_nil]; omega, List.take_length_add_append]
          congr 1
          omega
        · rw [show (k + 1) * 3 = (grc g).length + k * 3 by simp only [grc, List.length_cons, List.length_nil]; omega, List.take_length_add_append, ih k (by omega)]
  rw [this, List.getElem?_take] at hu
  split at hu
  · exact h.2.2 j u hu
  · cases hu
/-- What the region reads. -/
def HeldR (bx : Nat) (nm : ByteArray) (a0 a1 al : Option Addr) (n0 c0 n1 c1 nl cl : Nat) (bg : Nat) (g : Gr) (w : World) : Prop :=
  Bx w bx nm a0 a1 al n0 c0 n1 c1 nl cl ∧ w.cell? ⟨bg, 0, none⟩ = some (iv g.frm) ∧ w.cell? ⟨bg, 1, none⟩ = some (iv g.src) ∧ w.cell? ⟨bg, 2, none⟩ = some (iv g.dst)
theorem HeldR.kp {bx : Nat} {nm : ByteArray} {a0 a1 al : Option Addr} {n0 c0 n1 c1 nl cl : Nat} {bg : Nat} {g : Gr} {w w' : World} (h : HeldR bx nm a0 a1 al n0 c0 n1 c1 nl cl bg g w) (k : Kp w w') : HeldR bx nm a0 a1 al n0 c0 n1 c1 nl cl bg g w' :=
  ⟨h.1.kp k, k.cell h.2.1, k.cell h.2.2.1, k.cell h.2.2.2⟩

set_option maxRecDepth 100000 in
set_option maxHeartbeats 8000000 in
theorem rises_any (w : World) (E : Nat → Addr) (mx : Int) (hV : Env w E mx) (more : Int) (nm : ByteArray) (a0 a1 al : Option Addr) (n0 c0 n1 c1 nl cl : Nat) (b0 b1 : List Int) (ls : List Ln) (hP : PatI w a0 a1 al n0 n1 nl b0 b1 ls) :
    Calls Tryd.prog 4 #[patV nm a0 a1 al n0 c0 n1 c1 nl cl, iv more] w fun e w' => e = .returned (.bool true) ∧ Kp w w' := by
  have Hll := Lib.hid hP.il.1
  have hkb := Kp.new w (.cells #[.string nm, .slice a0 n0 c0, .slice a1 n1 c1, .slice al nl cl] 26)
  have hB := Bx.new w nm a0 a1 al n0 c0 n1 c1 nl cl
  obtain ⟨wb, hwb⟩ : ∃ wb, wb = w.alloc (.cells #[.string nm, .slice a0 n0 c0, .slice a1 n1 c1, .slice al nl cl] 26) := ⟨_, rfl⟩
  rw [← hwb] at hkb hB
  obtain ⟨bx, hbx⟩ : ∃ bx, bx = w.heap.size := ⟨_, rfl⟩
  rw [← hbx] at hB
  have HV := Lib.hid (hV.keep hkb)
  have HP := Lib.hid (hP.kp hkb)
  have HLg := Lib.hid (long_any wb nm a0 a1 al n0 c0 n1 c1 nl cl b0 b1 ls HP.out.i0 HP.out.i1 HP.out.il)
  have HKn := Lib.hid (fun w' (h : Kp wb w') => knownG_any w' E mx (HV.out.keep h))
  have HCk := Lib.hid (fun w' (h : Kp wb w') => check_any w' E (HV.out.keep h).ex.errs nm a0 a1 al n0 c0 n1 c1 nl cl b0 b1 ls (h.is HP.out.i0) (h.is HP.out.i1) (h.lns HP.out.il))
  have Hkb := Lib.hid hkb
  have HB := Lib.hid hB
  obtain ⟨y0, y1, y2, y3⟩ := hB
  clear hV hP hkb
  go_enter Tryd.func4, Tryd.ntmps4
  go_upto_region 1 with fail
  rw [← hwb, ← hbx]
  clear hwb hbx
  go_wp2_with fail
  (with_reducible refine HLg.out.mono ?_)
  rintro e w1 ⟨bl, rfl, hk1, hsh⟩
  have Hsh := Lib.hid hsh
  clear hsh y0 y1 y2 y3
  cases bl with
  | true =>
    go_wp2_with fail
    go_ret
    exact ⟨rfl, Kp.trans Hkb.out hk1⟩
  | false =>
    have hnl : nl ≤ 200 := (Hsh.out rfl).2.2.1
    obtain ⟨y0, y1, y2, y3⟩ := HB.out.kp hk1
    by_cases hc : codeL b0 b1 ls more = 0
    · obtain ⟨hck, m, rfl, hm⟩ := codeL_zero hc
      have h2 := two_of_check hck
      have HLv := Lib.hid (levels_fine (HV.out.keep hk1) (HP.out.kp hk1) (by omega) nm c0 c1 cl m hm hck)
      rw [hck, errV_nil] at HCk
      clear hc
      go_wp2_with fail
      (with_reducible refine HLv.out.mono ?_)
      rintro e w2 ⟨hk2, ao, n, cap, rfl, hG⟩
      clear y0 y1 y2 y3
      have hk12 := Kp.trans hk1 hk2
      have HG := Lib.hid hG.grs
      have Hn := Lib.hid (show nl + m = n by have := hG.2; rw [Q.levelsT_length, Hll.out] at this; exact this)
      have HR := Lib.hid (rises_of h2 m)
      have hcapn : n ≤ cap := hG.1.cap
      have HF := Lib.hid (fun w' (h : Kp w2 w') i (hi : i ≤ 100000) => from_any w' nm a0 a1 al n0 c0 n1 c1 nl cl ls ((Kp.trans hk12 h).lns HP.out.il) h2.pos h2.two i hi)
      have HL2 := Lib.hid (fun w' (h : Kp w2 w') k (hk : k ≤ 64) => levels_fine (HV.out.keep (Kp.trans hk12 h)) (HP.out.kp (Kp.trans hk12 h)) (by omega) nm c0 c1 cl k hk hck)
      have HB2 := Lib.hid (HB.out.kp hk12)
      have HPre := Lib.hid (fun k (hk : k ≤ m) => Q.levelsT_prefix ls hk)
      have Hk12 := Lib.hid hk12
      have Hlen := Lib.hid (fun k => Q.levelsT_length ls k)
      have hn : n ≤ 300 := by have := Hn.out; omega
      have hnm : ((n : Int) != (nl : Int) + (m : Int)) = false := by have := Hn.out; simp; omega
      obtain ⟨y0, y1, y2, y3⟩ := HB2.out
      clear hG hk1 hk2 hk12 HLv hck
      go_wp2_with fail
      (with_reducible refine (HCk.out w2 Hk12.out).mono ?_)
      rintro e w3 ⟨rfl, hk3⟩
      clear y0 y1 y2 y3
      obtain ⟨y0, y1, y2, y3⟩ := HB2.out.kp hk3
      go_wp2_with fail
      clear y0 y1 y2 y3 hnm
      obtain ⟨w20, hw20⟩ : ∃ w20 : World, w20 = w2 := ⟨_, rfl⟩
      rw [← hw20] at HF HL2 HB2 HG Hk12 hk3
      clear hw20
      obtain ⟨w30, hw30⟩ : ∃ w30 : World, w30 = w3 := ⟨_, rfl⟩
      go_loopw [7] (fun i wr => ∃ k : Nat, k ≤ n ∧ i = .int .i64 (k : Nat) ∧ Kp w20 wr) (fun i _ => n - (intOf i).toNat)
      case atStart => exact ⟨0, by omega, rfl, hk3⟩
      case round =>
        clear hk3 hw30
        obtain ⟨k, hk, rfl, hkr⟩ := hrel
        rename World => wr
        by_cases hlt : k < n
        · have hkg : k < (Q.levelsT ls m).length := by rw [Hlen.out]; have := Hn.out; have := Hll.out; omega
          obtain ⟨b, off, rfl, _, hcl⟩ := HG.out.at k hlt
          have Hcl := Lib.hid hcl
          obtain ⟨x0, x1, x2⟩ := hcl k hkg
          replace x0 := hkr.cell x0
          replace x1 := hkr.cell x1
          replace x2 := hkr.cell x2
          have hfr := HR.out.frm k hkg
          have hrg := HR.out.rng k hkg
          have Hmo := Lib.hid (fun q (hq : q < (Q.levelsT ls m).length) (hqk : q < k) => HR.out.mono q k hq hkg hqk)
          have Hag := Lib.hid (HR.out.again k hkg)
          have HFk := Lib.hid (fun w' (h : Kp w20 w') => HF.out w' h k (by omega))
          rw [← hfr] at HFk
          clear hcl hfr
          generalize hge : (Q.levelsT ls m)[k] = g at *
          clear hge
          have r0 : decide (g.src < 0) = false := by have := hrg.1; simp; omega
          have r1 : decide (2 < g.src) = false := by have := hrg.2.1; simp; omega
          have r2 : decide (g.dst < 0) = false := by have := hrg.2.2.1; simp; omega
          have r3 : decide (5 < g.dst) = false := by have := hrg.2.2.2; simp; omega
          clear hrg
          go_upto_region 12 with fail
          have hk4 := Kp.new wr (.cells #[iv g.frm, iv g.src, iv g.dst] 48)
          have hT4 := Thr.new wr (iv g.frm) (iv g.src) (iv g.dst) 48
          change Code.wp _ _ _ _ (wr.alloc (.cells #[iv g.frm, iv g.src, iv g.dst] 48))
          generalize wr.alloc (.cells #[iv g.frm, iv g.src, iv g.dst] 48) = w4 at *
          generalize wr.heap.size = bg at *
          have hH : HeldR bx nm a0 a1 al n0 c0 n1 c1 nl cl bg g w4 := ⟨HB2.out.kp (Kp.trans hkr hk4), hT4.c0, hT4.c1, hT4.c2⟩
          have hk24 := Kp.trans hkr hk4
          clear hkr hk4 hT4 x0 x1 x2
          refine anyH_start (HeldR bx nm a0 a1 al n0 c0 n1 c1 nl cl bg g) (by kernel_rfl) ?_
          have hkd : Kp w4 w4.drew := ⟨rfl, rfl, rfl, Nat.le_refl _, fun _ _ => rfl⟩
          generalize w4.drew = wd at *
          replace hH := hH.kp hkd
          have hk2d := Kp.trans hk24 hkd
          clear hk24 hkd
          refine anyH_take [0, 3] (by kernel_rfl) hH ?_
          simp only [opsAt, List.getElem?_toArray, List.getElem?_cons_zero, List.getElem?_cons_succ]
          repeat (go_big_quiet_step (fail))
          refine wpQuiet_nil ?_
          refine anyH_load 1 79 (iv g.frm) rfl rfl (by kernel_rfl) hH (fun w h => exec_load3 h.2.1 rfl rfl) ?_
          simp only [Act.put, List.setIfInBounds_toArray, List.set_cons_zero, List.set_cons_succ]
          refine anyH_load 2 80 (patV nm a0 a1 al n0 c0 n1 c1 nl cl) rfl rfl (by kernel_rfl) hH (fun w h => exec_loadB h.1 rfl rfl) ?_
          simp only [Act.put, List.setIfInBounds_toArray, List.set_cons_zero, List.set_cons_succ]
          refine anyH_one 4 (by kernel_rfl) ?_
          simp only [opsAt, List.getElem?_toArray, List.getElem?_cons_zero, List.getElem?_cons_succ]
          have HH := Lib.hid hH
          clear hH
          go_wp2_with fail
          (with_reducible refine (HFk.out wd hk2d).mono ?_)
          rintro e w5 ⟨rfl, hk5⟩
          go_wp2_with fail
          have hH5 := HH.out.kp hk5
          have hk25 := Kp.trans hk2d hk5
          clear hk2d hk5
          refine ⟨hH5, ?_⟩
          refine anyH_take [5, 6, 7] (by kernel_rfl) hH5 ?_
          simp only [opsAt, List.getElem?_toArray, List.getElem?_cons_zero, List.getElem?_cons_succ]
          repeat (go_big_quiet_step (fail))
          refine wpQuiet_nil ?_
          refine anyH_loadG 8 86 (iv g.src) rfl rfl (by kernel_rfl) rfl hH5 (fun w h => exec_load3 h.2.2.1 rfl rfl) ?_
          simp only [Act.put, List.setIfInBounds_toArray, List.set_cons_zero, List.set_cons_succ]
          refine anyH_take [9, 10, 11, 12] (by kernel_rfl) hH5 ?_
          simp only [opsAt, List.getElem?_toArray, List.getElem?_cons_zero, List.getElem?_cons_succ]
          repeat (go_big_quiet_step (fail))
          refine wpQuiet_nil ?_
          refine anyH_loadG 13 91 (iv g.src) rfl rfl (by kernel_rfl) rfl hH5 (fun w h => exec_load3 h.2.2.1 rfl rfl) ?_
          simp only [Act.put, List.setIfInBounds_toArray, List.set_cons_zero, List.set_cons_succ]
          refine anyH_take [14, 15, 16, 17] (by kernel_rfl) hH5 ?_
          simp only [opsAt, List.getElem?_toArray, List.getElem?_cons_zero, List.getElem?_cons_succ]
          repeat (go_big_quiet_step (fail))
          refine wpQuiet_nil ?_
          refine anyH_loadG 18 96 (iv g.dst) rfl rfl (by kernel_rfl) rfl hH5 (fun w h => exec_load3 h.2.2.2 rfl rfl) ?_
          simp only [Act.put, List.setIfInBounds_toArray, List.set_cons_zero, List.set_cons_succ]
          refine anyH_take [19, 20, 21, 22] (by kernel_rfl) hH5 ?_
          simp only [opsAt, List.getElem?_toArray, List.getElem?_cons_zero, List.getElem?_cons_succ]
          repeat (go_big_quiet_step (fail))
          refine wpQuiet_nil ?_
          refine anyH_loadG 23 101 (iv g.dst) rfl rfl (by kernel_rfl) rfl hH5 (fun w h => exec_load3 h.2.2.2 rfl rfl) ?_
          simp only [Act.put, List.setIfInBounds_toArray, List.set_cons_zero, List.set_cons_succ]
          refine anyH_take [24, 25] (by kernel_rfl) hH5 ?_
          simp only [opsAt, List.getElem?_toArray, List.getElem?_cons_zero, List.getElem?_cons_succ]
          repeat (go_big_quiet_step (fail))
          refine wpQuiet_nil ?_
          refine anyH_end (by kernel_rfl) ?_
          have HH5 := Lib.hid hH5
          clear hH5 r0 r1 r2 r3
          go_wp2_with fail
          obtain ⟨w50, hw50⟩ : ∃ w50 : World, w50 = w5 := ⟨_, rfl⟩
          rw [← hw50] at HH5 hk25
          have Hk25 := Lib.hid hk25
          clear hk25
          go_loopw [9] (fun i wv => ∃ q : Nat, q ≤ k ∧ i = .int .i64 (q : Nat) ∧ Kp w50 wv) (fun i _ => k - (intOf i).toNat)
          case atStart => exact ⟨0, by omega, rfl, hw50 ▸ Kp.refl _⟩
          case round =>
            clear hw50
            obtain ⟨q, hq, rfl, hkq⟩ := hrel
            rename World => wv
            have hk2q := Kp.trans Hk25.out hkq
            obtain ⟨_, g0, g1, g2⟩ := HH5.out.kp hkq
            by_cases hqk : q < k
            · have hqg : q < (Q.levelsT ls m).length := by omega
              obtain ⟨x0, x1, x2⟩ := Hcl.out q hqg
              have hmo := Hmo.out q hqg hqk
              generalize hge : (Q.levelsT ls m)[q] = p at *
              clear hge hqg
              replace x0 := hk2q.cell x0
              replace x1 := hk2q.cell x1
              replace x2 := hk2q.cell x2
              have hqn : q < n := by omega
              clear hk2q
              by_cases he : p.frm = g.frm
              · obtain ⟨hm1, hm2⟩ := hmo he
                have he' : (p.frm == g.frm) = true := by simp [he]
                have r1 : decide (g.src < p.src) = false := by simp; omega
                have r2 : decide (g.dst < p.dst) = false := by simp; omega
                clear he hmo
                go_wp2_with fail
                go_quiet (fail)
                generalize hwn : wv.drewN nq = wn
                have hkn : Kp wv wn := hwn ▸ Kp.of_drewN wv nq
                clear hwn
                go_wp2_with fail
                go_roundw
                case rel => exact ⟨q + 1, by omega, by go_num, Kp.trans hkq hkn⟩
                case measure => simp [intOf]; omega
              · have he' : (p.frm == g.frm) = false := by simp [he]
                clear he hmo
                go_wp2_with fail
                go_quiet (fail)
                generalize hwn : wv.drewN nq = wn
                have hkn : Kp wv wn := hwn ▸ Kp.of_drewN wv nq
                clear hwn
                go_wp2_with fail
                go_roundw
                case rel => exact ⟨q + 1, by omega, by go_num, Kp.trans hkq hkn⟩
                case measure => simp [intOf]; omega
            · obtain rfl : q = k := by omega
              obtain ⟨y0, y1, y2, y3⟩ := HB2.out.kp hk2q
              by_cases hk2 : nl + 2 ≤ q
              · have hge := Hag.out (by rw [Hll.out]; exact hk2)
                obtain ⟨x0, x1, x2⟩ := Hcl.out (q - 2) (by omega)
                rw [hge] at x0 x1 x2
                replace x0 := hk2q.cell x0
                replace x1 := hk2q.cell x1
                replace x2 := hk2q.cell x2
                have hd0 : ((nl : Int) + 2 ≤ (q : Int)) := by omega
                have hd : decide ((nl : Int) + 2 ≤ (q : Int)) = true := by simp; omega
                have hq2 : 2 ≤ q := by omega
                have hne := fun w' => neqG w' g g
                rw [show (!(g == g)) = false by simp] at hne
                clear hge hk2q hk2
                go_wp2_with fail
                go_quiet (fail)
                generalize hwn : wv.drewN nq = wn
                have hkn : Kp wv wn := hwn ▸ Kp.of_drewN wv nq
                clear hwn
                go_wp2_with fail
                go_roundw
                case rel => exact ⟨q + 1, by omega, by go_num, Kp.trans Hk25.out (Kp.trans hkq hkn)⟩
                case measure => simp [intOf]; omega
              · have hd0 : ¬ ((nl : Int) + 2 ≤ (q : Int)) := by omega
                have hd : decide ((nl : Int) + 2 ≤ (q : Int)) = false := by simp; omega
                clear hk2q hk2
                go_wp2_with fail
                go_quiet (fail)
                generalize hwn : wv.drewN nq = wn
                have hkn : Kp wv wn := hwn ▸ Kp.of_drewN wv nq
                clear hwn
                go_wp2_with fail
                go_roundw
                case rel => exact ⟨q + 1, by omega, by go_num, Kp.trans Hk25.out (Kp.trans hkq hkn)⟩
                case measure => simp [intOf]; omega
        · obtain rfl : k = n := by omega
          go_wp2_with fail
          obtain ⟨w40, hw40⟩ : ∃ w40 : World, w40 = wr := ⟨_, rfl⟩
          have Hkr := Lib.hid hkr
          rw [← hw40] at Hkr
          clear hkr
          go_loopw [10] (fun i wv => ∃ r : Nat, r ≤ m ∧ r ≤ 3 ∧ i = .int .i64 (r : Nat) ∧ Kp w20 wv) (fun i _ => 3 - (intOf i).toNat)
          case atStart => exact ⟨0, by omega, by omega, rfl, hw40 ▸ Hkr.out⟩
          case round =>
            clear hw40
            obtain ⟨r, hrm, hr3, rfl, hkv⟩ := hrel
            rename World => wv
            by_cases hlt2 : r < m ∧ r < 3
            · obtain ⟨hr1, hr2⟩ := hlt2
              have HLr := Lib.hid (HL2.out wv hkv r (by omega))
              obtain ⟨y0, y1, y2, y3⟩ := HB2.out.kp hkv
              go_wp2_with fail
              (with_reducible refine HLr.out.mono ?_)
              rintro e w6 ⟨hk6, ao2, n2, cap2, rfl, hG2⟩
              clear y0 y1 y2 y3
              have hn2 : n2 = nl + r := by have := hG2.2; rw [Hlen.out, Hll.out] at this; omega
              have hcut : (Q.levelsT ls m).take n2 = Q.levelsT ls r := by rw [HPre.out r (by omega), hn2, Hll.out]
              have hGt := (HG.out.take n2 (by have := Hn.out; omega))
              rw [hcut] at hGt
              have HGr := Lib.hid (grades_any w6 ao2 ao n2 n2 cap2 cap _ _ hG2.grs ((Kp.trans hkv hk6).grs hGt))
              rw [show alikeG (Q.levelsT ls r) (Q.levelsT ls r) = true by unfold alikeG; simp] at HGr
              have hd : decide ((k : Int) < (n2 : Int)) = false := by have := Hn.out; simp; omega
              have hcn : n2 ≤ cap := by have := Hn.out; omega
              have hnk : n2 ≤ k := by have := Hn.out; omega
              have hkv6 := Kp.trans hkv hk6
              clear hn2 hcut hGt hG2 hkv hk6
              go_wp2_with fail
              (with_reducible refine HGr.out.mono ?_)
              rintro e w7 ⟨rfl, hk7⟩
              go_wp2_with fail
              go_roundw
              case rel => exact ⟨r + 1, by omega, by omega, by go_num, Kp.trans hkv6 hk7⟩
              case measure => simp [intOf]; omega
            · have HKv := Lib.hid (HKn.out wv (Kp.trans Hk12.out hkv))
              have HKf := Lib.hid (Kp.trans Hkb.out (Kp.trans Hk12.out hkv))
              clear hkv
              by_cases hr1 : r < m
              · have hr2 : r = 3 := by omega
                subst hr2
                rw [show ((3 : Nat) : Int) = 3 from rfl]
                go_wp2_with fail
                (with_reducible refine HKv.out.mono ?_)
                rintro e wz ⟨rfl, hkz⟩
                go_wp2_with fail
                go_ret
                exact ⟨rfl, Kp.trans HKf.out hkz⟩
              · have hr2 : ¬ ((r : Int) < (m : Int)) := by omega
                clear hlt2
                go_wp2_with fail
                (with_reducible refine HKv.out.mono ?_)
                rintro e wz ⟨rfl, hkz⟩
                go_wp2_with fail
                go_ret
                exact ⟨rfl, Kp.trans HKf.out hkz⟩
    · have HLv := Lib.hid (levels_bad (HV.out.keep hk1) (HP.out.kp hk1) (by omega) nm c0 c1 cl more hc)
      have hcm : codeL b0 b1 ls more = 1 ∨ codeL b0 b1 ls more = 9 ∨ codeL b0 b1 ls more = 10 ∨ codeL b0 b1 ls more = 11 ∨ codeL b0 b1 ls more = 12 := by have := codeL_mem b0 b1 ls more; omega
      have HCd := Lib.hid (fun w' (h : Kp wb w') => code_any w' E (HV.out.keep h).ex (codeL b0 b1 ls more) (.inr hcm))
      rw [errV_ptr E hc] at HCd
      have hcp : (0 : Int) < (codeL b0 b1 ls more : Int) := by omega
      have Hcl := Lib.hid (show ¬ checkL b0 b1 ls = 0 ∨ more < 0 ∨ 64 < more by
        unfold codeL at hc
        by_cases h0 : checkL b0 b1 ls = 0
        · rw [if_pos h0] at hc
          by_cases hm : more < 0 ∨ 64 < more
          · exact .inr hm
          · rw [if_neg hm] at hc; exact absurd rfl hc
        · exact .inl h0)
      clear hc hcm
      generalize codeL b0 b1 ls more = cc at *
      go_wp2_with fail
      (with_reducible refine HLv.out.mono ?_)
      rintro e w2 ⟨hk2, rfl⟩
      clear y0 y1 y2 y3
      have hk12 := Kp.trans hk1 hk2
      obtain ⟨y0, y1, y2, y3⟩ := HB.out.kp hk12
      go_wp2_with fail
      (with_reducible refine (HCd.out w2 hk12).mono ?_)
      rintro e w3 ⟨rfl, rfl⟩
      by_cases hck : checkL b0 b1 ls = 0
      · rw [hck, errV_nil] at HCk
        have hm : more < 0 ∨ 64 < more := by rcases Hcl.out with h | h; exact absurd hck h; exact h
        clear hck
        go_wp2_with fail
        (with_reducible refine (HCk.out w2 hk12).mono ?_)
        rintro e w4 ⟨rfl, hk4⟩
        have hk14 := Kp.trans hk12 hk4
        clear y0 y1 y2 y3
        rcases hm with hm | hm
        · go_wp2_with fail
          (with_reducible refine (HKn.out w4 hk14).mono ?_)
          rintro e w5 ⟨rfl, hk5⟩
          go_wp2_with fail
          go_ret
          exact ⟨rfl, Kp.trans Hkb.out (Kp.trans hk14 hk5)⟩
        · have hm0 : ¬ more < 0 := by omega
          go_wp2_with fail
          (with_reducible refine (HKn.out w4 hk14).mono ?_)
          rintro e w5 ⟨rfl, hk5⟩
          go_wp2_with fail
          go_ret
          exact ⟨rfl, Kp.trans Hkb.out (Kp.trans hk14 hk5)⟩
      · rw [errV_ptr E hck] at HCk
        clear hck
        go_wp2_with fail
        (with_reducible refine (HCk.out w2 hk12).mono ?_)
        rintro e w4 ⟨rfl, hk4⟩
        have hk14 := Kp.trans hk12 hk4
        clear y0 y1 y2 y3
        go_wp2_with fail
        (with_reducible refine (HKn.out w4 hk14).mono ?_)
        rintro e w5 ⟨rfl, hk5⟩
        go_wp2_with fail
        go_ret
        exact ⟨rfl, Kp.trans Hkb.out (Kp.trans hk14 hk5)⟩
end Go.Proofs.YtjbjgpcldcpjmaaDoor
