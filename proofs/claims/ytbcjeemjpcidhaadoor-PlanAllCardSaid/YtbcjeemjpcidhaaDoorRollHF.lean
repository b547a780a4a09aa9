/- 'Roll' behind its label 'ahead', the responder's side. Conditions: the moves lie there (Mvs); what holds at the label (J19). -/
import Derived.Test.YtbcjeemjpcidhaaDoorPa4
import Derived.Test.YtbcjeemjpcidhaaDoorPa1
import Derived.Test.YtbcjeemjpcidhaaDoorPa2
namespace Go.Proofs.YtbcjeemjpcidhaaDoor
open Go.RowKit

set_option maxRecDepth 100000 in
set_option maxHeartbeats 8000000 in
theorem roll_ahead_false (w0 : World) (B br bp bm rm : Nat) (hL : Lay w0 B br bp bm rm) (lo : Option Addr) (n c : Nat) (ms : List Mv) (hms : Mvs w0 lo n ms) (hn : n ≤ 1000) (Q : Exit → Act → World → Prop) (a : Act) (w : World)
    (hJ : J19 w0 B br bp bm rm false lo n c ms 1 a w) : (restOf Tryd.f6 1).wp Tryd.prog (Exit.jumps (K19 w0 B br bp bm rm false lo n c ms (mu19 n 1 a w)) Q) a w := by
  obtain ⟨i, from', t0, t1, tl, ts, p, hi, hF, hM, hS, h0, h1, h2⟩ := hJ
  have hmu : mu19 n 1 a w = n + 1 - i := by
    unfold mu19; rw [hF.nine]; simp [intOf]
  rw [hmu]
  obtain ⟨u, rfl⟩ := hF
  obtain ⟨hS, hp⟩ := St19.one.1 hS
  have hml := hms.1
  conv => enter [2]; whnf
  rw [show iv (sideOf false) = iv 1 from rfl, show iv (1 - sideOf false) = iv 0 from rfl]
  by_cases hlt : i < n
  · obtain ⟨b, off, rfl, hc⟩ := (Kp.mvs hM.kp hms).at i hlt
    obtain ⟨c1, c2, c3⟩ := hc i hlt
    clear hc
    have Hf := Lib.hid (take_fold (ini := false) (show i < ms.length by omega))
    generalize ms[i] = m at c1 c2 c3 Hf
    obtain ⟨⟨b0, b1⟩, ls⟩ := p
    simp only at hp h0 h1 h2
    subst hp
    obtain ⟨l0, l1, l2, l3, l4⟩ := id hL
    obtain ⟨x0, x1, x2, ⟨d0, d1, d2⟩, f0, f1, f2⟩ := hM.mv
    have hne : ((i : Int) == (n : Int)) = false := by simp; omega
    go_upto_region 16 with fail
    obtain ⟨hv, hFr, e0, e1, e2⟩ := Free3.set hM.mv (iv m.op) (iv m.key) (iv m.wth)
    have hM1 := hM.setm hL hFr hv
    clear c1 c2 c3 d0 d1 d2 f0 f1 f2 hv hFr hM hne
    generalize ((w.setCell ⟨bm, 0, none⟩ (iv m.op)).setCell ⟨bm, 1, none⟩ (iv m.key)).setCell ⟨bm, 2, none⟩ (iv m.wth) = w1 at *
    have HM := Lib.hid hM1
    clear hM1
    by_cases h5 : m.op = 5
    · have g5 : (m.op == 5) = true := by simp [h5]
      have Hf2 := Lib.hid (show (ms.take (i + 1)).foldl (rollS false) initP = ((b0, b1), [] ++ [(sideOf false, [])]) by rw [Hf.out, hS]; unfold rollS; rw [if_pos h5])
      clear hS h5
      go_wp2_with fail
      go_step3
      show K19 w0 B br bp bm rm false _ n c ms (n + 1 - i) 2 _ _
      exact K19.mk (i + 1) rfl (by omega) (F19.of ..) HM.out (St19.two.2 ⟨Hf2.out, by simp⟩) (by simp only; omega) (by simp only; omega) (by simp) (.inr (by omega))
    · by_cases h6 : m.op = 6
      · have g5 : (m.op == 5) = false := by simp [h5]
        have g6 : (m.op == 6) = true := by simp [h6]
        have Hf2 := Lib.hid (show (ms.take (i + 1)).foldl (rollS false) initP = ((b0, b1), [] ++ [(1 - sideOf false, [])]) by rw [Hf.out, hS]; unfold rollS; rw [if_neg h5, if_pos h6])
        clear hS h5 h6
        go_wp2_with fail
        go_step3
        show K19 w0 B br bp bm rm false _ n c ms (n + 1 - i) 2 _ _
        exact K19.mk (i + 1) rfl (by omega) (F19.of ..) HM.out (St19.two.2 ⟨Hf2.out, by simp⟩) (by simp only; omega) (by simp only; omega) (by simp) (.inr (by omega))
      · have g5 : (m.op == 5) = false := by simp [h5]
        have g6 : (m.op == 6) = false := by simp [h6]
        have hroll : rollS false ((b0, b1), []) m = if m.op = 3 ∧ 3 ≤ m.key ∧ m.key ≤ 4 then (addB (b0, b1) (!false) (m.key - 2), []) else if m.op = 3 ∧ 1 ≤ m.key then (addB (b0, b1) false m.key, []) else ((b0, b1), []) := by
          unfold rollS
          rw [if_neg h5, if_neg h6]
          rfl
        clear h5 h6
        by_cases h3 : m.op = 3
        · have g3 : (m.op == 3) = true := by simp [h3]
          by_cases k3 : 3 ≤ m.key ∧ m.key ≤ 4
          · rw [if_pos ⟨h3, k3⟩] at hroll
            have Hf2 := Lib.hid (show (ms.take (i + 1)).foldl (rollS false) initP = ((b0 ++ [m.key - 2], b1), []) by rw [Hf.out, hS, hroll]; rfl)
            obtain ⟨k3, k4⟩ := k3
            clear hroll hS h3 Hf
            go_upto_region 21 with fail
            clear g3 g5 g6
            obtain ⟨ta, tn, tc⟩ := t0
            have hO := HM.out.pat.o0
            have hnj := HM.out.pat.n0
            simp only at hO hnj
            have hbt : bp ∉ blkL ta := fun hx => by have := (hO.lt bp (mem_blkL.1 hx)).1; omega
            have hby : (tn + 1) * 8 ≤ 140737488355328 := by omega
            have y1 := HM.out.at4.1.2.1
            have q1 := HM.out.at4.2.1
            unfold tvv at y1
            simp only at y1
            clear hnj
            refine any_start (by kernel_rfl) ?_
            generalize hwd : w1.drew = wd
            have hkd : Kp w1 wd := hwd ▸ (⟨rfl, rfl, rfl, Nat.le_refl _, fun _ _ => rfl⟩ : Kp w1 w1.drew)
            clear hwd
            replace HM := Lib.hid (HM.out.drawn hkd)
            replace hO := hO.keep hkd
            replace e1 := Kp.cell hkd e1
            replace y1 := Kp.cell hkd y1
            replace q1 := HM.out.at4.2.1
            clear e0 e2 hkd
            have hkz := Kp.new wd (.cells #[iv (m.key - 2)] 3)
            have hBw : B ≤ (wd.alloc (.cells #[iv (m.key - 2)] 3)).heap.size := Nat.le_trans HM.out.big hkz.size
            have y1z := Kp.cell hkz y1
            refine any_take [0, 1, 2, 3, 5, 10] (by kernel_rfl) ?_
            simp only [opsAt, List.getElem?_toArray, List.getElem?_cons_zero, List.getElem?_cons_succ]
            repeat (go_big_quiet_step (fail))
            refine wpQuiet_nil ?_
            refine any_two 4 6 (by kernel_rfl) ?_ ?_
            · simp only [opsAt, List.getElem?_toArray, List.getElem?_cons_zero, List.getElem?_cons_succ]
              go_wp2_with fail
              refine any_one 6 (by kernel_rfl) ?_
              simp only [opsAt, List.getElem?_toArray, List.getElem?_cons_zero, List.getElem?_cons_succ]
              go_wp2_with fail
              refine any_take [7] (by kernel_rfl) ?_
              simp only [opsAt, List.getElem?_toArray, List.getElem?_cons_zero, List.getElem?_cons_succ]
              repeat (go_big_quiet_step (fail))
              refine wpQuiet_nil ?_
              refine any_one 8 (by kernel_rfl) ?_
              simp only [opsAt, List.getElem?_toArray, List.getElem?_cons_zero, List.getElem?_cons_succ]
              go_wp2_with fail
              refine any_one 9 (by kernel_rfl) ?_
              simp only [opsAt, List.getElem?_toArray, List.getElem?_cons_zero, List.getElem?_cons_succ]
              go_wp2_with (at_builtin; refine wpList_app rfl (.tmp 93) (.tmp 97) 25 rfl el22 B rfl (hO.keep hkz) rfl [iv (m.key - 2)] rfl (Cs.new wd [iv (m.key - 2)] 3 (0, 0)) (by simp [Value.oneCell']) (tn + 1) rfl ((b0 ++ [(m.key - 2)]).map iv) (by simp) hby hBw ?_; intro ao2 cap2 w2 ha; have z0 := Fr.cell ha.fr (Kp.cell hkz y1) hbt; have z1 := Fr.free ha.fr (Kp.cell hkz y1) ((Fr.of_kp hkz).free y1 q1 (by simp)) hbt)
              refine any_take [11] (by kernel_rfl) ?_
              simp only [opsAt, List.getElem?_toArray, List.getElem?_cons_zero, List.getElem?_cons_succ]
              repeat (go_big_quiet_step (fail))
              refine wpQuiet_nil ?_
              refine any_one 12 (by kernel_rfl) ?_
              simp only [opsAt, List.getElem?_toArray, List.getElem?_cons_zero, List.getElem?_cons_succ]
              go_wp2_with fail
              refine any_end (by kernel_rfl) ?_
              go_wp2_with fail
              go_step3
              have hM2 := HM.out.app0 hL hkz ha
              have hl2 := HM.out.pat.n0
              show K19 w0 B br bp bm rm false _ n c ms (n + 1 - i) 1 _ _
              exact K19.mk (i + 1) rfl (by omega) (F19.of ..) hM2 (St19.one.2 ⟨Hf2.out, rfl⟩) (by simp only [List.length_append, List.length_cons, List.length_nil]; omega) (by simp only []; omega) (by simp) (.inr (by omega))
            · simp only [opsAt, List.getElem?_toArray, List.getElem?_cons_zero, List.getElem?_cons_succ]
              go_wp2_with fail
              refine any_take [7] (by kernel_rfl) ?_
              simp only [opsAt, List.getElem?_toArray, List.getElem?_cons_zero, List.getElem?_cons_succ]
              repeat (go_big_quiet_step (fail))
              refine wpQuiet_nil ?_
              refine any_two 4 8 (by kernel_rfl) ?_ ?_
              · simp only [opsAt, List.getElem?_toArray, List.getElem?_cons_zero, List.getElem?_cons_succ]
                go_wp2_with fail
                refine any_one 8 (by kernel_rfl) ?_
                simp only [opsAt, List.getElem?_toArray, List.getElem?_cons_zero, List.getElem?_cons_succ]
                go_wp2_with fail
                refine any_one 9 (by kernel_rfl) ?_
                simp only [opsAt, List.getElem?_toArray, List.getElem?_cons_zero, List.getElem?_cons_succ]
                go_wp2_with (at_builtin; refine wpList_app rfl (.tmp 93) (.tmp 97) 25 rfl el22 B rfl (hO.keep hkz) rfl [iv (m.key - 2)] rfl (Cs.new wd [iv (m.key - 2)] 3 (0, 0)) (by simp [Value.oneCell']) (tn + 1) rfl ((b0 ++ [(m.key - 2)]).map iv) (by simp) hby hBw ?_; intro ao2 cap2 w2 ha; have z0 := Fr.cell ha.fr (Kp.cell hkz y1) hbt; have z1 := Fr.free ha.fr (Kp.cell hkz y1) ((Fr.of_kp hkz).free y1 q1 (by simp)) hbt)
                refine any_take [11] (by kernel_rfl) ?_
                simp only [opsAt, List.getElem?_toArray, List.getElem?_cons_zero, List.getElem?_cons_succ]
                repeat (go_big_quiet_step (fail))
                refine wpQuiet_nil ?_
                refine any_one 12 (by kernel_rfl) ?_
                simp only [opsAt, List.getElem?_toArray, List.getElem?_cons_zero, List.getElem?_cons_succ]
                go_wp2_with fail
                refine any_end (by kernel_rfl) ?_
                go_wp2_with fail
                go_step3
                have hM2 := HM.out.app0 hL hkz ha
                have hl2 := HM.out.pat.n0
                show K19 w0 B br bp bm rm false _ n c ms (n + 1 - i) 1 _ _
                exact K19.mk (i + 1) rfl (by omega) (F19.of ..) hM2 (St19.one.2 ⟨Hf2.out, rfl⟩) (by simp only [List.length_append, List.length_cons, List.length_nil]; omega) (by simp only []; omega) (by simp) (.inr (by omega))
              · simp only [opsAt, List.getElem?_toArray, List.getElem?_cons_zero, List.getElem?_cons_succ]
                go_wp2_with fail
                refine any_one 4 (by kernel_rfl) ?_
                simp only [opsAt, List.getElem?_toArray, List.getElem?_cons_zero, List.getElem?_cons_succ]
                go_wp2_with fail
                refine any_one 9 (by kernel_rfl) ?_
                simp only [opsAt, List.getElem?_toArray, List.getElem?_cons_zero, List.getElem?_cons_succ]
                go_wp2_with (at_builtin; refine wpList_app rfl (.tmp 93) (.tmp 97) 25 rfl el22 B rfl (hO.keep hkz) rfl [iv (m.key - 2)] rfl (Cs.new wd [iv (m.key - 2)] 3 (0, 0)) (by simp [Value.oneCell']) (tn + 1) rfl ((b0 ++ [(m.key - 2)]).map iv) (by simp) hby hBw ?_; intro ao2 cap2 w2 ha; have z0 := Fr.cell ha.fr (Kp.cell hkz y1) hbt; have z1 := Fr.free ha.fr (Kp.cell hkz y1) ((Fr.of_kp hkz).free y1 q1 (by simp)) hbt)
                refine any_take [11] (by kernel_rfl) ?_
                simp only [opsAt, List.getElem?_toArray, List.getElem?_cons_zero, List.getElem?_cons_succ]
                repeat (go_big_quiet_step (fail))
                refine wpQuiet_nil ?_
                refine any_one 12 (by kernel_rfl) ?_
                simp only [opsAt, List.getElem?_toArray, List.getElem?_cons_zero, List.getElem?_cons_succ]
                go_wp2_with fail
                refine any_end (by kernel_rfl) ?_
                go_wp2_with fail
                go_step3
                have hM2 := HM.out.app0 hL hkz ha
                have hl2 := HM.out.pat.n0
                show K19 w0 B br bp bm rm false _ n c ms (n + 1 - i) 1 _ _
                exact K19.mk (i + 1) rfl (by omega) (F19.of ..) hM2 (St19.one.2 ⟨Hf2.out, rfl⟩) (by simp only [List.length_append, List.length_cons, List.length_nil]; omega) (by simp only []; omega) (by simp) (.inr (by omega))
          · by_cases k1 : 1 ≤ m.key
            · rw [if_neg (fun h => k3 h.2), if_pos ⟨h3, k1⟩] at hroll
              have Hf2 := Lib.hid (show (ms.take (i + 1)).foldl (rollS false) initP = ((b0, b1 ++ [m.key]), []) by rw [Hf.out, hS, hroll]; rfl)
              clear hroll hS h3 Hf
              by_cases k4 : 3 ≤ m.key
              · have k5 : ¬ m.key ≤ 4 := fun h => k3 ⟨k4, h⟩
                clear k3
                go_upto_region 23 with fail
                clear g3 g5 g6
                obtain ⟨ta, tn, tc⟩ := t1
                have hO := HM.out.pat.o1
                have hnj := HM.out.pat.n1
                simp only at hO hnj
                have hbt : bp ∉ blkL ta := fun hx => by have := (hO.lt bp (mem_blkL.1 hx)).1; omega
                have hby : (tn + 1) * 8 ≤ 140737488355328 := by omega
                have y1 := HM.out.at4.1.2.2.1
                have q1 := HM.out.at4.2.2.1
                unfold tvv at y1
                simp only at y1
                clear hnj
                refine any_start (by kernel_rfl) ?_
                generalize hwd : w1.drew = wd
                have hkd : Kp w1 wd := hwd ▸ (⟨rfl, rfl, rfl, Nat.le_refl _, fun _ _ => rfl⟩ : Kp w1 w1.drew)
                clear hwd
                replace HM := Lib.hid (HM.out.drawn hkd)
                replace hO := hO.keep hkd
                replace e1 := Kp.cell hkd e1
                replace y1 := Kp.cell hkd y1
                replace q1 := HM.out.at4.2.2.1
                clear e0 e2 hkd
                have hkz := Kp.new wd (.cells #[iv m.key] 3)
                have hBw : B ≤ (wd.alloc (.cells #[iv m.key] 3)).heap.size := Nat.le_trans HM.out.big hkz.size
                have y1z := Kp.cell hkz y1
                refine any_take [0, 1, 2, 3, 5, 9] (by kernel_rfl) ?_
                simp only [opsAt, List.getElem?_toArray, List.getElem?_cons_zero, List.getElem?_cons_succ]
                repeat (go_big_quiet_step (fail))
                refine wpQuiet_nil ?_
                refine any_two 4 6 (by kernel_rfl) ?_ ?_
                · simp only [opsAt, List.getElem?_toArray, List.getElem?_cons_zero, List.getElem?_cons_succ]
                  go_wp2_with fail
                  refine any_one 6 (by kernel_rfl) ?_
                  simp only [opsAt, List.getElem?_toArray, List.getElem?_cons_zero, List.getElem?_cons_succ]
                  go_wp2_with fail
                  refine any_one 7 (by kernel_rfl) ?_
                  simp only [opsAt, List.getElem?_toArray, List.getElem?_cons_zero, List.getElem?_cons_succ]
                  go_wp2_with fail
                  refine any_one 8 (by kernel_rfl) ?_
                  simp only [opsAt, List.getElem?_toArray, List.getElem?_cons_zero, List.getElem?_cons_succ]
                  go_wp2_with (at_builtin; refine wpList_app rfl (.tmp 114) (.tmp 117) 25 rfl el22 B rfl (hO.keep hkz) rfl [iv m.key] rfl (Cs.new wd [iv m.key] 3 (0, 0)) (by simp [Value.oneCell']) (tn + 1) rfl ((b1 ++ [m.key]).map iv) (by simp) hby hBw ?_; intro ao2 cap2 w2 ha; have z0 := Fr.cell ha.fr (Kp.cell hkz y1) hbt; have z1 := Fr.free ha.fr (Kp.cell hkz y1) ((Fr.of_kp hkz).free y1 q1 (by simp)) hbt)
                  refine any_take [10] (by kernel_rfl) ?_
                  simp only [opsAt, List.getElem?_toArray, List.getElem?_cons_zero, List.getElem?_cons_succ]
                  repeat (go_big_quiet_step (fail))
                  refine wpQuiet_nil ?_
                  refine any_one 11 (by kernel_rfl) ?_
                  simp only [opsAt, List.getElem?_toArray, List.getElem?_cons_zero, List.getElem?_cons_succ]
                  go_wp2_with fail
                  refine any_end (by kernel_rfl) ?_
                  go_wp2_with fail
                  go_step3
                  have hM2 := HM.out.app1 hL hkz ha
                  have hl2 := HM.out.pat.n1
                  show K19 w0 B br bp bm rm false _ n c ms (n + 1 - i) 1 _ _
                  exact K19.mk (i + 1) rfl (by omega) (F19.of ..) hM2 (St19.one.2 ⟨Hf2.out, rfl⟩) (by simp only []; omega) (by simp only [List.length_append, List.length_cons, List.length_nil]; omega) (by simp) (.inr (by omega))
                · simp only [opsAt, List.getElem?_toArray, List.getElem?_cons_zero, List.getElem?_cons_succ]
                  go_wp2_with fail
                  refine any_two 4 7 (by kernel_rfl) ?_ ?_
                  · simp only [opsAt, List.getElem?_toArray, List.getElem?_cons_zero, List.getElem?_cons_succ]
                    go_wp2_with fail
                    refine any_one 7 (by kernel_rfl) ?_
                    simp only [opsAt, List.getElem?_toArray, List.getElem?_cons_zero, List.getElem?_cons_succ]
                    go_wp2_with fail
                    refine any_one 8 (by kernel_rfl) ?_
                    simp only [opsAt, List.getElem?_toArray, List.getElem?_cons_zero, List.getElem?_cons_succ]
                    go_wp2_with (at_builtin; refine wpList_app rfl (.tmp 114) (.tmp 117) 25 rfl el22 B rfl (hO.keep hkz) rfl [iv m.key] rfl (Cs.new wd [iv m.key] 3 (0, 0)) (by simp [Value.oneCell']) (tn + 1) rfl ((b1 ++ [m.key]).map iv) (by simp) hby hBw ?_; intro ao2 cap2 w2 ha; have z0 := Fr.cell ha.fr (Kp.cell hkz y1) hbt; have z1 := Fr.free ha.fr (Kp.cell hkz y1) ((Fr.of_kp hkz).free y1 q1 (by simp)) hbt)
                    refine any_take [10] (by kernel_rfl) ?_
                    simp only [opsAt, List.getElem?_toArray, List.getElem?_cons_zero, List.getElem?_cons_succ]
                    repeat (go_big_quiet_step (fail))
                    refine wpQuiet_nil ?_
                    refine any_one 11 (by kernel_rfl) ?_
                    simp only [opsAt, List.getElem?_toArray, List.getElem?_cons_zero, List.getElem?_cons_succ]
                    go_wp2_with fail
                    refine any_end (by kernel_rfl) ?_
                    go_wp2_with fail
                    go_step3
                    have hM2 := HM.out.app1 hL hkz ha
                    have hl2 := HM.out.pat.n1
                    show K19 w0 B br bp bm rm false _ n c ms (n + 1 - i) 1 _ _
                    exact K19.mk (i + 1) rfl (by omega) (F19.of ..) hM2 (St19.one.2 ⟨Hf2.out, rfl⟩) (by simp only []; omega) (by simp only [List.length_append, List.length_cons, List.length_nil]; omega) (by simp) (.inr (by omega))
                  · simp only [opsAt, List.getElem?_toArray, List.getElem?_cons_zero, List.getElem?_cons_succ]
                    go_wp2_with fail
                    refine any_one 4 (by kernel_rfl) ?_
                    simp only [opsAt, List.getElem?_toArray, List.getElem?_cons_zero, List.getElem?_cons_succ]
                    go_wp2_with fail
                    refine any_one 8 (by kernel_rfl) ?_
                    simp only [opsAt, List.getElem?_toArray, List.getElem?_cons_zero, List.getElem?_cons_succ]
                    go_wp2_with (at_builtin; refine wpList_app rfl (.tmp 114) (.tmp 117) 25 rfl el22 B rfl (hO.keep hkz) rfl [iv m.key] rfl (Cs.new wd [iv m.key] 3 (0, 0)) (by simp [Value.oneCell']) (tn + 1) rfl ((b1 ++ [m.key]).map iv) (by simp) hby hBw ?_; intro ao2 cap2 w2 ha; have z0 := Fr.cell ha.fr (Kp.cell hkz y1) hbt; have z1 := Fr.free ha.fr (Kp.cell hkz y1) ((Fr.of_kp hkz).free y1 q1 (by simp)) hbt)
                    refine any_take [10] (by kernel_rfl) ?_
                    simp only [opsAt, List.getElem?_toArray, List.getElem?_cons_zero, List.getElem?_cons_succ]
                    repeat (go_big_quiet_step (fail))
                    refine wpQuiet_nil ?_
                    refine any_one 11 (by kernel_rfl) ?_
                    simp only [opsAt, List.getElem?_toArray, List.getElem?_cons_zero, List.getElem?_cons_succ]
                    go_wp2_with fail
                    refine any_end (by kernel_rfl) ?_
                    go_wp2_with fail
                    go_step3
                    have hM2 := HM.out.app1 hL hkz ha
                    have hl2 := HM.out.pat.n1
                    show K19 w0 B br bp bm rm false _ n c ms (n + 1 - i) 1 _ _
                    exact K19.mk (i + 1) rfl (by omega) (F19.of ..) hM2 (St19.one.2 ⟨Hf2.out, rfl⟩) (by simp only []; omega) (by simp only [List.length_append, List.length_cons, List.length_nil]; omega) (by simp) (.inr (by omega))
              · clear k3
                go_upto_region 23 with fail
                clear g3 g5 g6
                obtain ⟨ta, tn, tc⟩ := t1
                have hO := HM.out.pat.o1
                have hnj := HM.out.pat.n1
                simp only at hO hnj
                have hbt : bp ∉ blkL ta := fun hx => by have := (hO.lt bp (mem_blkL.1 hx)).1; omega
                have hby : (tn + 1) * 8 ≤ 140737488355328 := by omega
                have y1 := HM.out.at4.1.2.2.1
                have q1 := HM.out.at4.2.2.1
                unfold tvv at y1
                simp only at y1
                clear hnj
                refine any_start (by kernel_rfl) ?_
                generalize hwd : w1.drew = wd
                have hkd : Kp w1 wd := hwd ▸ (⟨rfl, rfl, rfl, Nat.le_refl _, fun _ _ => rfl⟩ : Kp w1 w1.drew)
                clear hwd
                replace HM := Lib.hid (HM.out.drawn hkd)
                replace hO := hO.keep hkd
                replace e1 := Kp.cell hkd e1
                replace y1 := Kp.cell hkd y1
                replace q1 := HM.out.at4.2.2.1
                clear e0 e2 hkd
                have hkz := Kp.new wd (.cells #[iv m.key] 3)
                have hBw : B ≤ (wd.alloc (.cells #[iv m.key] 3)).heap.size := Nat.le_trans HM.out.big hkz.size
                have y1z := Kp.cell hkz y1
                refine any_take [0, 1, 2, 3, 5, 9] (by kernel_rfl) ?_
                simp only [opsAt, List.getElem?_toArray, List.getElem?_cons_zero, List.getElem?_cons_succ]
                repeat (go_big_quiet_step (fail))
                refine wpQuiet_nil ?_
                refine any_two 4 6 (by kernel_rfl) ?_ ?_
                · simp only [opsAt, List.getElem?_toArray, List.getElem?_cons_zero, List.getElem?_cons_succ]
                  go_wp2_with fail
                  refine any_one 6 (by kernel_rfl) ?_
                  simp only [opsAt, List.getElem?_toArray, List.getElem?_cons_zero, List.getElem?_cons_succ]
                  go_wp2_with fail
                  refine any_one 7 (by kernel_rfl) ?_
                  simp only [opsAt, List.getElem?_toArray, List.getElem?_cons_zero, List.getElem?_cons_succ]
                  go_wp2_with fail
                  refine any_one 8 (by kernel_rfl) ?_
                  simp only [opsAt, List.getElem?_toArray, List.getElem?_cons_zero, List.getElem?_cons_succ]
                  go_wp2_with (at_builtin; refine wpList_app rfl (.tmp 114) (.tmp 117) 25 rfl el22 B rfl (hO.keep hkz) rfl [iv m.key] rfl (Cs.new wd [iv m.key] 3 (0, 0)) (by simp [Value.oneCell']) (tn + 1) rfl ((b1 ++ [m.key]).map iv) (by simp) hby hBw ?_; intro ao2 cap2 w2 ha; have z0 := Fr.cell ha.fr (Kp.cell hkz y1) hbt; have z1 := Fr.free ha.fr (Kp.cell hkz y1) ((Fr.of_kp hkz).free y1 q1 (by simp)) hbt)
                  refine any_take [10] (by kernel_rfl) ?_
                  simp only [opsAt, List.getElem?_toArray, List.getElem?_cons_zero, List.getElem?_cons_succ]
                  repeat (go_big_quiet_step (fail))
                  refine wpQuiet_nil ?_
                  refine any_one 11 (by kernel_rfl) ?_
                  simp only [opsAt, List.getElem?_toArray, List.getElem?_cons_zero, List.getElem?_cons_succ]
                  go_wp2_with fail
                  refine any_end (by kernel_rfl) ?_
                  go_wp2_with fail
                  go_step3
                  have hM2 := HM.out.app1 hL hkz ha
                  have hl2 := HM.out.pat.n1
                  show K19 w0 B br bp bm rm false _ n c ms (n + 1 - i) 1 _ _
                  exact K19.mk (i + 1) rfl (by omega) (F19.of ..) hM2 (St19.one.2 ⟨Hf2.out, rfl⟩) (by simp only []; omega) (by simp only [List.length_append, List.length_cons, List.length_nil]; omega) (by simp) (.inr (by omega))
                · simp only [opsAt, List.getElem?_toArray, List.getElem?_cons_zero, List.getElem?_cons_succ]
                  go_wp2_with fail
                  refine any_two 4 7 (by kernel_rfl) ?_ ?_
                  · simp only [opsAt, List.getElem?_toArray, List.getElem?_cons_zero, List.getElem?_cons_succ]
                    go_wp2_with fail
                    refine any_one 7 (by kernel_rfl) ?_
                    simp only [opsAt, List.getElem?_toArray, List.getElem?_cons_zero, List.getElem?_cons_succ]
                    go_wp2_with fail
                    refine any_one 8 (by kernel_rfl) ?_
                    simp only [opsAt, List.getElem?_toArray, List.getElem?_cons_zero, List.getElem?_cons_succ]
                    go_wp2_with (at_builtin; refine wpList_app rfl (.tmp 114) (.tmp 117) 25 rfl el22 B rfl (hO.keep hkz) rfl [iv m.key] rfl (Cs.new wd [iv m.key] 3 (0, 0)) (by simp [Value.oneCell']) (tn + 1) rfl ((b1 ++ [m.key]).map iv) (by simp) hby hBw ?_; intro ao2 cap2 w2 ha; have z0 := Fr.cell ha.fr (Kp.cell hkz y1) hbt; have z1 := Fr.free ha.fr (Kp.cell hkz y1) ((Fr.of_kp hkz).free y1 q1 (by simp)) hbt)
                    refine any_take [10] (by kernel_rfl) ?_
                    simp only [opsAt, List.getElem?_toArray, List.getElem?_cons_zero, List.getElem?_cons_succ]
                    repeat (go_big_quiet_step (fail))
                    refine wpQuiet_nil ?_
                    refine any_one 11 (by kernel_rfl) ?_
                    simp only [opsAt, List.getElem?_toArray, List.getElem?_cons_zero, List.getElem?_cons_succ]
                    go_wp2_with fail
                    refine any_end (by kernel_rfl) ?_
                    go_wp2_with fail
                    go_step3
                    have hM2 := HM.out.app1 hL hkz ha
                    have hl2 := HM.out.pat.n1
                    show K19 w0 B br bp bm rm false _ n c ms (n + 1 - i) 1 _ _
                    exact K19.mk (i + 1) rfl (by omega) (F19.of ..) hM2 (St19.one.2 ⟨Hf2.out, rfl⟩) (by simp only []; omega) (by simp only [List.length_append, List.length_cons, List.length_nil]; omega) (by simp) (.inr (by omega))
                  · simp only [opsAt, List.getElem?_toArray, List.getElem?_cons_zero, List.getElem?_cons_succ]
                    go_wp2_with fail
                    refine any_one 4 (by kernel_rfl) ?_
                    simp only [opsAt, List.getElem?_toArray, List.getElem?_cons_zero, List.getElem?_cons_succ]
                    go_wp2_with fail
                    refine any_one 8 (by kernel_rfl) ?_
                    simp only [opsAt, List.getElem?_toArray, List.getElem?_cons_zero, List.getElem?_cons_succ]
                    go_wp2_with (at_builtin; refine wpList_app rfl (.tmp 114) (.tmp 117) 25 rfl el22 B rfl (hO.keep hkz) rfl [iv m.key] rfl (Cs.new wd [iv m.key] 3 (0, 0)) (by simp [Value.oneCell']) (tn + 1) rfl ((b1 ++ [m.key]).map iv) (by simp) hby hBw ?_; intro ao2 cap2 w2 ha; have z0 := Fr.cell ha.fr (Kp.cell hkz y1) hbt; have z1 := Fr.free ha.fr (Kp.cell hkz y1) ((Fr.of_kp hkz).free y1 q1 (by simp)) hbt)
                    refine any_take [10] (by kernel_rfl) ?_
                    simp only [opsAt, List.getElem?_toArray, List.getElem?_cons_zero, List.getElem?_cons_succ]
                    repeat (go_big_quiet_step (fail))
                    refine wpQuiet_nil ?_
                    refine any_one 11 (by kernel_rfl) ?_
                    simp only [opsAt, List.getElem?_toArray, List.getElem?_cons_zero, List.getElem?_cons_succ]
                    go_wp2_with fail
                    refine any_end (by kernel_rfl) ?_
                    go_wp2_with fail
                    go_step3
                    have hM2 := HM.out.app1 hL hkz ha
                    have hl2 := HM.out.pat.n1
                    show K19 w0 B br bp bm rm false _ n c ms (n + 1 - i) 1 _ _
                    exact K19.mk (i + 1) rfl (by omega) (F19.of ..) hM2 (St19.one.2 ⟨Hf2.out, rfl⟩) (by simp only []; omega) (by simp only [List.length_append, List.length_cons, List.length_nil]; omega) (by simp) (.inr (by omega))
            · rw [if_neg (fun h => k3 h.2), if_neg (fun h => k1 h.2)] at hroll
              have Hf2 := Lib.hid (show (ms.take (i + 1)).foldl (rollS false) initP = ((b0, b1), []) by rw [Hf.out, hS, hroll])
              have k4 : ¬ 3 ≤ m.key := by omega
              clear hroll hS h3 Hf k3
              go_wp2_with fail
              go_step3
              show K19 w0 B br bp bm rm false _ n c ms (n + 1 - i) 1 _ _
              exact K19.mk (i + 1) rfl (by omega) (F19.of ..) HM.out (St19.one.2 ⟨Hf2.out, rfl⟩) (by simp only; omega) (by simp only; omega) (by simp) (.inr (by omega))
        · have g3 : (m.op == 3) = false := by simp [h3]
          rw [if_neg (fun h => h3 h.1), if_neg (fun h => h3 h.1)] at hroll
          have Hf2 := Lib.hid (show (ms.take (i + 1)).foldl (rollS false) initP = ((b0, b1), []) by rw [Hf.out, hS, hroll])
          clear hroll hS h3 Hf
          go_wp2_with fail
          go_step3
          show K19 w0 B br bp bm rm false _ n c ms (n + 1 - i) 1 _ _
          exact K19.mk (i + 1) rfl (by omega) (F19.of ..) HM.out (St19.one.2 ⟨Hf2.out, rfl⟩) (by simp only; omega) (by simp only; omega) (by simp) (.inr (by omega))
  · have heq : ((i : Int) == (n : Int)) = true := by simp; omega
    obtain rfl : i = n := by omega
    have Hf := Lib.hid (show ms.foldl (rollS false) initP = p by rw [← hS, List.take_of_length_le (by omega)])
    go_wp2_with fail
    go_step3
    show K19 w0 B br bp bm rm false _ i c ms (i + 1 - i) 0 _ _
    exact K19.mk i rfl (by omega) (F19.of ..) hM (St19.zero.2 ⟨hml.symm, Hf.out⟩) (by omega) (by omega) (by omega) (.inl ⟨rfl, by omega⟩)
end Go.Proofs.YtbcjeemjpcidhaaDoor
