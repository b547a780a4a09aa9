/- PlanMirrors: the walk. Conditions: the pattern lies there (Is, Lns), the four errors too (Errs). -/
import Derived.Test.YtpemfmjplejdiaaDoorAwake
import Derived.Test.YtpemfmjplejdiaaDoorUnrollF
import Derived.Deep.RegionWith
namespace Go.Proofs.YtpemfmjplejdiaaDoor
open Go.RowKit

/-- What is needed of the two lists of moves. -/
structure Two (xs ys : List Mv) (pa pb R : Nat) : Prop where
  la : xs.length = pa + R
  lb : ys.length = pb + R
  pos : 0 < R
  fa : ∀ j (h : j < xs.length), j < pa → xs[j].op = 1
  fb : ∀ j (h : j < ys.length), j < pb → ys[j].op = 1
  ha : ∀ (h : pa < xs.length), xs[pa].op = 2
  hb : ∀ (h : pb < ys.length), ys[pb].op = 2
  mir : ∀ p q (h : p < xs.length) (h' : q < ys.length), pa ≤ p → p + pb = q + pa → mirL xs[p] = ys[q] ∧ smallM xs[p]
theorem two_of {b0 b1 : List Int} {ls : List Ln} (h : checkL b0 b1 ls = 0) : ∃ pa pb R, Two (unrollL true b0 b1 ls) (unrollL false b0 b1 ls) pa pb R := by
  have hs := checkL_ok h
  have hm := restL_mir hs
  have hl : (restL false b0 b1 ls).length = (restL true b0 b1 ls).length := by rw [← hm, List.length_map]
  have hsm := restL_small hs true
  have h2 : ∀ ini (h : 0 < (restL ini b0 b1 ls).length), (restL ini b0 b1 ls)[0].op = 2 := fun ini h => rfl
  have hp : ∀ ini, 0 < (restL ini b0 b1 ls).length := fun ini => by unfold restL; simp
  refine ⟨(pubL true b0 b1 ls).length, (pubL false b0 b1 ls).length, (restL true b0 b1 ls).length, ?_⟩
  rw [unrollL_split, unrollL_split]
  refine ⟨by rw [List.length_append], by rw [List.length_append, hl], hp _, fun j h hj => ?_, fun j h hj => ?_, fun h => ?_, fun h => ?_, fun p q h h' hp hpq => ?_⟩
  · rw [List.getElem_append_left hj]; exact pubL_op _ _ _ _ _ (List.getElem_mem _)
  · rw [List.getElem_append_left hj]; exact pubL_op _ _ _ _ _ (List.getElem_mem _)
  · rw [List.getElem_append_right (Nat.le_refl _)]
    simp only [Nat.sub_self]; exact h2 _ (hp _)
  · rw [List.getElem_append_right (Nat.le_refl _)]
    simp only [Nat.sub_self]; exact h2 _ (hp _)
  · obtain ⟨t, rfl⟩ : ∃ t, p = (pubL true b0 b1 ls).length + t := ⟨p - (pubL true b0 b1 ls).length, by omega⟩
    obtain rfl : q = (pubL false b0 b1 ls).length + t := by omega
    rw [List.getElem_append_right (by omega), List.getElem_append_right (by omega)]
    simp only [Nat.add_sub_cancel_left]
    refine ⟨?_, hsm _ (List.getElem_mem _)⟩
    have hlt : t < (restL true b0 b1 ls).length := by rw [List.length_append] at h; omega
    have : ∀ (l : List Mv) (e : (restL true b0 b1 ls).map mirL = l) (h' : t < l.length), mirL (restL true b0 b1 ls)[t] = l[t] := fun l e h' => by subst e; rw [List.getElem_map]
    exact this _ hm _
theorem errV_zero (E : Nat → Addr) : errV E 0 = .nilIface := rfl
theorem errV_pos (E : Nat → Addr) {c : Nat} (h : c ≠ 0) : errV E c = .iface 107 (.pointer (some (E c))) := by unfold errV; rw [if_neg h]

set_option maxRecDepth 100000 in
set_option maxHeartbeats 4000000 in
theorem mirrors_any (w : World) (E : Nat → Addr) (hE : Errs w E) (nm : ByteArray) (a0 a1 al : Option Addr) (n0 c0 n1 c1 nl cl : Nat) (b0 b1 : List Int) (ls : List Ln) (hnm : nm.size ≤ 9223372036854775807) (h0 : Is w a0 n0 b0) (h1 : Is w a1 n1 b1) (hl : Lns w al nl ls) :
    Calls Tryd.prog 4 #[.agg #[.string nm, .slice a0 n0 c0, .slice a1 n1 c1, .slice al nl cl]] w fun e w' => e = .returned (.bool true) ∧ Kp w w' := by
  have hkb := Kp.new w (.cells #[.string nm, .slice a0 n0 c0, .slice a1 n1 c1, .slice al nl cl] 26)
  have hAt : ∀ j v, [Value.string nm, .slice a0 n0 c0, .slice a1 n1 c1, .slice al nl cl][j]? = some v → (w.alloc (.cells #[.string nm, .slice a0 n0 c0, .slice a1 n1 c1, .slice al nl cl] 26)).cell? ⟨w.heap.size, j, none⟩ = some v := by
    intro j v hv
    rw [World.cell?_alloc_at _ _ _ _ rfl]
    simpa using hv
  have hq0 := hAt 0 _ rfl
  have hq1 := hAt 1 _ rfl
  have hq2 := hAt 2 _ rfl
  have hq3 := hAt 3 _ rfl
  obtain ⟨wb, hwb⟩ : ∃ wb, wb = w.alloc (.cells #[.string nm, .slice a0 n0 c0, .slice a1 n1 c1, .slice al nl cl] 26) := ⟨_, rfl⟩
  obtain ⟨bx, hbx⟩ : ∃ bx, bx = w.heap.size := ⟨_, rfl⟩
  rw [← hwb] at hkb hq0 hq1 hq2 hq3
  rw [← hbx] at hq0 hq1 hq2 hq3
  have hEb := hkb.errs hE
  replace h0 := hkb.is h0
  replace h1 := hkb.is h1
  replace hl := hkb.lns hl
  clear hE hAt
  have HL := Lib.hid (large_any wb nm a0 a1 al n0 c0 n1 c1 nl cl b0 b1 ls hnm h0 h1 hl)
  have HA := Lib.hid (fun w' (k : Kp wb w') => awake_any w' E (k.errs hEb))
  have HT := Lib.hid (fun w' (k : Kp wb w') => unroll_true w' E (k.errs hEb) nm a0 a1 al n0 c0 n1 c1 nl cl b0 b1 ls (k.is h0) (k.is h1) (k.lns hl))
  have HF := Lib.hid (fun w' (k : Kp wb w') => unroll_false w' E (k.errs hEb) nm a0 a1 al n0 c0 n1 c1 nl cl b0 b1 ls (k.is h0) (k.is h1) (k.lns hl))
  have Hkb := Lib.hid hkb
  clear h0 h1 hl hEb hkb
  go_enter Tryd.func4, Tryd.ntmps4
  go_upto_region 1 with fail
  rw [← hwb, ← hbx]
  clear hwb hbx
  go_wp2_with fail
  (with_reducible refine HL.out.mono ?_)
  rintro e w1 ⟨bl, rfl, hk1⟩
  cases bl with
  | true =>
    go_wp2_with fail
    (with_reducible refine (HA.out w1 hk1).mono ?_)
    rintro e w2 ⟨rfl, hk2⟩
    go_wp2_with fail
    go_ret
    exact ⟨rfl, Kp.trans Hkb.out (Kp.trans hk1 hk2)⟩
  | false =>
    have q0 := hk1.cell hq0
    have q1 := hk1.cell hq1
    have q2 := hk1.cell hq2
    have q3 := hk1.cell hq3
    go_wp2_with fail
    (with_reducible refine (HT.out w1 hk1).mono ?_)
    rintro e w2 ⟨hk2, h⟩
    replace q0 := hk2.cell q0
    replace q1 := hk2.cell q1
    replace q2 := hk2.cell q2
    replace q3 := hk2.cell q3
    by_cases hc : checkL b0 b1 ls = 0
    · rw [if_pos hc] at h
      obtain ⟨ao, n, cap, rfl, hM⟩ := h
      go_wp2_with fail
      (with_reducible refine (HF.out w2 (Kp.trans hk1 hk2)).mono ?_)
      rintro e w3 ⟨hk3, h⟩
      rw [if_pos hc] at h
      obtain ⟨bo, m, bcap, rfl, hM'⟩ := h
      have hA := (hM.keep hk3).mvs
      have hB := hM'.mvs
      obtain ⟨pa, pb, R, h2⟩ := two_of hc
      obtain ⟨xs, hxs⟩ : ∃ xs, xs = unrollL true b0 b1 ls := ⟨_, rfl⟩
      obtain ⟨ys, hys⟩ : ∃ ys, ys = unrollL false b0 b1 ls := ⟨_, rfl⟩
      rw [← hxs, ← hys] at h2
      rw [← hxs] at hA
      rw [← hys] at hB
      clear hM hM' hxs hys hc q0 q1 q2 q3
      obtain ⟨la, lb, hpos, fa, fb, ga, gb, hmir⟩ := h2
      have hna := hA.1
      have hnb := hB.1
      have hma := hA.2.1
      have hmb := hB.2.1
      unfold maxLen at hma hmb
      have Hw3 := Lib.hid (Kp.trans hk1 (Kp.trans hk2 hk3))
      have hn1 : n ≤ pa + R := by omega
      have hn2 : pa + R ≤ n := by omega
      have hm1 : m ≤ pb + R := by omega
      have hm2 : pb + R ≤ m := by omega
      obtain ⟨ab, aoff, rfl, hac⟩ := hA.at 0 (by omega)
      obtain ⟨bb, boff, rfl, hbc⟩ := hB.at 0 (by omega)
      have Hac := Lib.hid (show ∀ j (h : j < xs.length), w3.cell? ⟨ab, aoff + j * 3, none⟩ = some (iv xs[j].op) ∧ w3.cell? ⟨ab, aoff + j * 3 + 1, none⟩ = some (iv xs[j].key) ∧ w3.cell? ⟨ab, aoff + j * 3 + 2, none⟩ = some (iv xs[j].wth) from fun j h => hac j (by omega))
      have Hbc := Lib.hid (show ∀ j (h : j < ys.length), w3.cell? ⟨bb, boff + j * 3, none⟩ = some (iv ys[j].op) ∧ w3.cell? ⟨bb, boff + j * 3 + 1, none⟩ = some (iv ys[j].key) ∧ w3.cell? ⟨bb, boff + j * 3 + 2, none⟩ = some (iv ys[j].wth) from fun j h => hbc j (by omega))
      have Hf := Lib.hid (And.intro fa (And.intro fb (And.intro ga (And.intro gb hmir))))
      have Hl := Lib.hid (And.intro hna hnb)
      clear hac hbc hA hB fa fb ga gb hmir hk1 hk2 hk3 hq0 hq1 hq2 hq3 HL HT HF la lb hna hnb
      go_wp2_with fail
      go_quiet (fail)
      generalize hw4 : w3.drewN nq = w4
      have hk4 : Kp w3 w4 := hw4 ▸ Kp.of_drewN w3 nq
      clear hw4
      go_wp2_with fail
      go_loopw [7] (fun i wr => ∃ k : Nat, k ≤ pa ∧ i = .int .i64 (k : Nat) ∧ wr = w4) (fun i _ => pa - (intOf i).toNat)
      case atStart => exact ⟨0, by omega, rfl, rfl⟩
      case round =>
        obtain ⟨k, hk, rfl, rfl⟩ := hrel
        have hkx : k < xs.length := by rw [Hl.out.1]; omega
        have c0 := hk4.cell (Hac.out k hkx).1
        by_cases hlt : k < pa
        · rw [Hf.out.1 k hkx hlt] at c0
          have hkn : k < n := by omega
          go_wp2_with fail
          go_roundw
          case rel => exact ⟨k + 1, by omega, by go_num, trivial⟩
          case measure => simp [intOf]; omega
        · have hkp : k = pa := by omega
          subst hkp
          rw [Hf.out.2.2.1 hkx] at c0
          have hkn : k < n := by omega
          go_wp2_with fail
          rename World => w5
          clear c0
          go_loopw [8] (fun i wr => ∃ k2 : Nat, k2 ≤ pb ∧ i = .int .i64 (k2 : Nat) ∧ wr = w5) (fun i _ => pb - (intOf i).toNat)
          case atStart => exact ⟨0, by omega, rfl, rfl⟩
          case round =>
            obtain ⟨k2, hk2, rfl, rfl⟩ := hrel
            have hky : k2 < ys.length := by rw [Hl.out.2]; omega
            have c0 := hk4.cell (Hbc.out k2 hky).1
            by_cases hlt2 : k2 < pb
            · rw [Hf.out.2.1 k2 hky hlt2] at c0
              have hkm : k2 < m := by omega
              go_wp2_with fail
              go_roundw
              case rel => exact ⟨k2 + 1, by omega, by go_num, trivial⟩
              case measure => simp [intOf]; omega
            · have hkp : k2 = pb := by omega
              subst hkp
              have c1 := hk4.cell (Hac.out k hkx).1
              rw [Hf.out.2.2.1 hkx] at c1
              rw [Hf.out.2.2.2.1 hky] at c0
              have hkm : k2 < m := by omega
              have hd : ((n : Int) - (k : Int) != (m : Int) - (k2 : Int)) = false := by simp; omega
              have hd2 : ((k : Int) == (n : Int)) = false := by simp; omega
              go_upto_region 15 with fail
              rename World => w6
              clear hk2 hlt2 hlt hk
              go_wp2_with fail
              clear c0 c1 hd hd2
              go_loopw [7, 8] (fun i kk wr => ∃ p q : Nat, k ≤ p ∧ p ≤ n ∧ p + k2 ≤ q + k ∧ q + k ≤ p + k2 ∧ i = .int .i64 (p : Nat) ∧ kk = .int .i64 (q : Nat) ∧ Kp w6 wr) (fun i _ _ => n - (intOf i).toNat)
              case atStart => exact ⟨k, k2, by omega, by omega, by omega, by omega, rfl, rfl, Kp.refl _⟩
              case round =>
                obtain ⟨p, q, hkp, hpn, hpq1, hpq2, rfl, rfl, hkw⟩ := hrel
                by_cases hp : p < n
                · have hpx : p < xs.length := by rw [Hl.out.1]; omega
                  have hqy : q < ys.length := by rw [Hl.out.2]; omega
                  have hqm : q < m := by omega
                  obtain ⟨hmir, hsm⟩ := Hf.out.2.2.2.2 p q hpx hqy hkp (by omega)
                  obtain ⟨x0, x1, x2⟩ := Hac.out p hpx
                  obtain ⟨y0, y1, y2⟩ := Hbc.out q hqy
                  have hkw3 := Kp.trans hk4 hkw
                  replace x0 := hkw3.cell x0
                  replace x1 := hkw3.cell x1
                  replace x2 := hkw3.cell x2
                  replace y0 := hkw3.cell y0
                  replace y1 := hkw3.cell y1
                  replace y2 := hkw3.cell y2
                  have Hkw := Lib.hid (And.intro hkw hkw3)
                  generalize xs[p]'hpx = x at x0 x1 x2 hmir hsm
                  generalize ys[q]'hqy = y at y0 y1 y2 hmir
                  have Hm := Lib.hid (show ∀ w', Calls Tryd.prog 17 #[.agg #[iv x.op, iv x.key, iv x.wth]] w' (fun e w'' => Kp w' w'' ∧ e = .returned (.agg #[iv y.op, iv y.key, iv y.wth])) from fun w' => by rw [← hmir]; exact mir_any w' x hsm.1 hsm.2.1 hsm.2.2)
                  have hne : ∀ w', (binOp .neq 42 (.agg #[iv y.op, iv y.key, iv y.wth]) (.agg #[iv y.op, iv y.key, iv y.wth])).run Tryd.prog w' = .ok (.bool false) w' := fun w' => by rw [neq42]; simp
                  clear hmir hsm hkw hkw3
                  go_wp2_with fail
                  go_region_with ((go_at_call 17; refine (Hm.out _).mono ?_; rintro e wc ⟨hkc, rfl⟩; have y0 := Kp.cell hkc y0; have y1 := Kp.cell hkc y1; have y2 := Kp.cell hkc y2))
                  all_goals
                    have hk6 : Kp w6 wc := Kp.trans Hkw.out.1 (Kp.trans (show Kp wr wr.drew from ⟨rfl, rfl, rfl, Nat.le_refl _, fun _ _ => rfl⟩) hkc)
                    clear y0 y1 y2 x0 x1 x2 hkc
                    go_wp2_with fail
                    go_roundw
                    case rel => exact ⟨p + 1, q + 1, by omega, by omega, by omega, by omega, by go_num, by go_num, hk6⟩
                    case measure => simp [intOf]; omega
                · have hkz : Kp wb wr := Kp.trans Hw3.out (Kp.trans hk4 hkw)
                  go_wp2_with fail
                  (with_reducible refine (HA.out _ hkz).mono ?_)
                  rintro e w9 ⟨rfl, hk9⟩
                  go_wp2_with fail
                  go_ret
                  exact ⟨rfl, Kp.trans Hkb.out (Kp.trans hkz hk9)⟩
    · rw [if_neg hc, errV_pos E hc] at h
      subst h
      go_wp2_with fail
      (with_reducible refine (HF.out w2 (Kp.trans hk1 hk2)).mono ?_)
      rintro e w3 ⟨hk3, h⟩
      rw [if_neg hc, errV_pos E hc] at h
      subst h
      go_wp2_with fail
      go_quiet (fail)
      have hk4 : Kp wb (w3.drewN nq) := Kp.trans hk1 (Kp.trans hk2 (Kp.trans hk3 (Kp.of_drewN _ _)))
      go_wp2_with fail
      (with_reducible refine (HA.out _ hk4).mono ?_)
      rintro e w5 ⟨rfl, hk5⟩
      go_wp2_with fail
      go_ret
      exact ⟨rfl, Kp.trans Hkb.out (Kp.trans hk4 hk5)⟩
end Go.Proofs.YtpemfmjplejdiaaDoor
