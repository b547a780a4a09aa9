/- A pattern among the arguments; what 'shaped' answers. Condition: the pattern lies there (Is, Lns). -/
import Derived.Test.YtkmejehhdjdlbaaGreatDoorTakes
namespace Go.Proofs.YtkmejehhdjdlbaaGreatDoor
open Go.RowKit

abbrev Ln := Int × List Int
/-- A slice value's parts read a list of messages. -/
def Lns (w : World) (ao : Option Addr) (n : Nat) (ls : List Ln) : Prop :=
  ls.length = n ∧ n ≤ 140737488351232 ∧ ∀ j (h : j < ls.length), ∃ b off tp tn tc, ao = some ⟨b, off, none⟩ ∧ w.cell? ⟨b, off + j * 2, none⟩ = some (iv ls[j].1) ∧ w.cell? ⟨b, off + j * 2 + 1, none⟩ = some (.slice tp tn tc) ∧ Is w tp tn ls[j].2 ∧ tn ≤ 140737488351232
theorem Kp.lns {w w' : World} (h : Kp w w') {ao : Option Addr} {n : Nat} {ls : List Ln} (hs : Lns w ao n ls) : Lns w' ao n ls := by
  refine ⟨hs.1, hs.2.1, fun j hj => ?_⟩
  obtain ⟨b, off, tp, tn, tc, h1, h2, h3, h4, h5⟩ := hs.2.2 j hj
  exact ⟨b, off, tp, tn, tc, h1, h.cell h2, h.cell h3, h.is h4, h5⟩

def headOk (prev : Option Int) (l : Ln) : Bool := (l.1 == 0 || l.1 == 1) && prev != some l.1 && l.2.length != 0
def toksOk (l : List Int) : Bool := l.all fun t => decide (1 ≤ t ∧ t ≤ 7)
def linesOk : Option Int → Nat → List Ln → Bool
  | _, _, [] => true
  | prev, n, l :: r => headOk prev l && toksOk l.2 && decide (n + l.2.length ≤ 24) && linesOk (some l.1) (n + l.2.length) r
def shapedL (b0 b1 : List Int) (ls : List Ln) : Bool := okB b0 && okB b1 && ls.length != 0 && linesOk none 0 ls
def prevAt (ls : List Ln) (k : Nat) : Option Int := if k = 0 then none else (ls[k - 1]?).map (·.1)

theorem drop_cons {α : Type} (l : List α) (k : Nat) (h : k < l.length) : l.drop k = l[k] :: l.drop (k + 1) := List.drop_eq_getElem_cons h

theorem linesOk_at (ls : List Ln) (k n : Nat) (h : k < ls.length) : linesOk (prevAt ls k) n (ls.drop k) = (headOk (prevAt ls k) ls[k] && toksOk ls[k].2 && decide (n + ls[k].2.length ≤ 24) && linesOk (prevAt ls (k + 1)) (n + ls[k].2.length) (ls.drop (k + 1))) := by
  rw [drop_cons ls k h, linesOk]
  have : prevAt ls (k + 1) = some ls[k].1 := by simp [prevAt, h]
  rw [this]
theorem toksOk_no (l : List Int) (j : Nat) (h : j < l.length) (hb : ¬ (1 ≤ l[j] ∧ l[j] ≤ 7)) : toksOk l = false := by
  cases hq : toksOk l with
  | false => rfl
  | true => exact absurd (by simpa using List.all_eq_true.1 hq l[j] (List.getElem_mem _)) hb
theorem toksOk_yes (l : List Int) (hb : ∀ j (h : j < l.length), 1 ≤ l[j] ∧ l[j] ≤ 7) : toksOk l = true := by
  refine List.all_eq_true.2 (fun x hx => ?_)
  obtain ⟨j, hj, rfl⟩ := List.getElem_of_mem hx
  simpa using hb j hj

set_option maxRecDepth 100000 in
set_option maxHeartbeats 4000000 in
theorem shaped_any (w : World) (nm : ByteArray) (a0 a1 al : Option Addr) (n0 c0 n1 c1 nl cl : Nat) (b0 b1 : List Int) (ls : List Ln) (h0 : Is w a0 n0 b0) (h1 : Is w a1 n1 b1) (hl : Lns w al nl ls) :
    Calls Tryz.prog 57 #[.agg #[.string nm, .slice a0 n0 c0, .slice a1 n1 c1, .slice al nl cl]] w fun e w' => e = .returned (.bool (shapedL b0 b1 ls)) ∧ Kp w w' := by
  have hnl := hl.2.1
  have Hll := Lib.hid hl.1
  have hnew : ∀ j v, [Value.string nm, .slice a0 n0 c0, .slice a1 n1 c1, .slice al nl cl][j]? = some v → (w.alloc (.cells #[.string nm, .slice a0 n0 c0, .slice a1 n1 c1, .slice al nl cl] 26)).cell? ⟨w.heap.size, j, none⟩ = some v := by
    intro j v hv
    rw [World.cell?_alloc_at _ _ _ _ rfl]
    simpa using hv
  have Hnew := Lib.hid hnew; clear hnew
  go_enter Tryz.func57, Tryz.ntmps57
  go_wp2_with fail
  (with_reducible refine (known_any _ a0 n0 c0 b0 (Kp.is (Kp.new _ _) h0)).mono ?_)
  rintro e w1 ⟨rfl, hk1⟩
  cases hb0 : okB b0 with
  | false =>
    have Hfin := Lib.hid (show shapedL b0 b1 ls = false by simp [shapedL, hb0])
    have hkw := Kp.trans (Kp.new _ _) hk1
    clear hb0
    go_wp2_with fail
    go_ret
    exact ⟨by rw [Hfin.out]; rfl, hkw⟩
  | true =>
    have y0 := Kp.cell hk1 (Hnew.out 0 _ rfl)
    have y1 := Kp.cell hk1 (Hnew.out 1 _ rfl)
    have y2 := Kp.cell hk1 (Hnew.out 2 _ rfl)
    have y3 := Kp.cell hk1 (Hnew.out 3 _ rfl)
    have hkw := Kp.trans (Kp.new _ _) hk1
    have Hb0 := Lib.hid hb0; clear hb0
    go_wp2_with fail
    (with_reducible refine (known_any _ a1 n1 c1 b1 (Kp.is hkw h1)).mono ?_)
    rintro e w2 ⟨rfl, hk2⟩
    have y0 := Kp.cell hk2 y0
    have y1 := Kp.cell hk2 y1
    have y2 := Kp.cell hk2 y2
    have y3 := Kp.cell hk2 y3
    have hkw2 := Kp.trans hkw hk2
    cases hb1 : okB b1 with
    | false =>
      have Hfin := Lib.hid (show shapedL b0 b1 ls = false by simp [shapedL, hb1])
      clear hb1
      go_wp2_with fail
      go_ret
      exact ⟨by rw [Hfin.out]; rfl, hkw2⟩
    | true =>
      by_cases hz : nl = 0
      · have Hfin := Lib.hid (show shapedL b0 b1 ls = false by simp [shapedL, Hll.out, hz])
        clear hb1
        subst hz
        go_wp2_with fail
        go_ret
        exact ⟨by rw [Hfin.out]; rfl, hkw2⟩
      · have hq : ((nl : Int) == 0) = false := by simp; omega
        have Hfin := Lib.hid (show shapedL b0 b1 ls = linesOk none 0 ls by simp [shapedL, Hll.out, hz, hb1, Hb0.out])
        clear hb1
        go_wp2_with fail
        go_loopw [3, 29] (fun t i wr => ∃ k n : Nat, k ≤ nl ∧ n ≤ 24 ∧ i = .int .i64 k ∧ t = .int .i64 n ∧ Kp w2 wr ∧ linesOk none 0 ls = linesOk (prevAt ls k) n (ls.drop k)) (fun _ i _ => nl - (intOf i).toNat)
        case atStart => exact ⟨0, 0, by omega, by omega, rfl, rfl, Kp.refl _, by simp [prevAt]⟩
        case round =>
          obtain ⟨k, n, hk, hn, rfl, rfl, hkk, hline⟩ := hrel
          have Hline := Lib.hid hline; clear hline
          by_cases hlt : k < nl
          · have hkl : k < ls.length := by rw [Hll.out]; exact hlt
            have hl2 := Kp.lns (Kp.trans hkw2 hkk) hl
            obtain ⟨b, off, tp, tn, tc, rfl, hc1, hc2, hI, htn⟩ := hl2.2.2 k hkl
            obtain ⟨f, ts, hft⟩ : ∃ f ts, ls[k] = (f, ts) := ⟨_, _, rfl⟩
            have hat := linesOk_at ls k n hkl
            rw [hft] at hc1 hI hat
            have hI : Is wr tp tn ts := hI
            have hc1 : wr.cell? ⟨b, off + k * 2, none⟩ = some (iv f) := hc1
            have htl : ts.length = tn := hI.1
            have y3' := fun o => Kp.cell (Kp.new wr o) (Kp.cell hkk y3)
            have hpr : 0 < k → ∃ g, prevAt ls k = some g ∧ ∀ o, (wr.alloc o).cell? ⟨b, off + (k - 1) * 2, none⟩ = some (iv g) := by
              intro h0
              obtain ⟨b', off', _, _, _, e, hp1, _⟩ := hl2.2.2 (k - 1) (by omega)
              simp only [Option.some.injEq, Addr.mk.injEq, and_true] at e
              obtain ⟨rfl, rfl⟩ := e
              refine ⟨ls[k - 1].1, ?_, fun o => Kp.cell (Kp.new wr o) hp1⟩
              unfold prevAt
              rw [if_neg (by omega), List.getElem?_eq_getElem (by omega)]; rfl
            have Hpr := Lib.hid hpr
            have Hat := Lib.hid hat
            have Htl := Lib.hid htl
            have Hft := Lib.hid hft
            clear hpr hat htl hft
            have HI := Lib.hid hI; clear hI
            go_upto_region 7 with fail
            go_cut [63] (fun v wc => v = .bool (!headOk (prevAt ls k) (f, ts)) ∧ ∃ q, wc = (wr.alloc (.cells #[iv f, .slice tp tn tc] 73)).drewN q)
            case first =>
              have q1 : IntKind.i64.wrap ((k : Int) - 1) = (k : Int) - 1 := IntWalk.i64_in _ (by omega)
              by_cases hf : f = 0 ∨ f = 1
              · have hfx : ((f != 0) && (f != 1)) = false := by rcases hf with rfl | rfl <;> rfl
                by_cases hk0 : k = 0
                · have hkd : decide (0 < k) = false := by simp [hk0]
                  by_cases ht0 : tn = 0
                  · skip
                    have HH := Lib.hid (show headOk (prevAt ls k) (f, ts) = false by simp [headOk, Htl.out, ht0])
                    subst ht0
                    subst hk0
                    rcases hf with rfl | rfl
                    all_goals
                      go_quiet (fail)
                      go_wp2_with fail
                      go_meet
                      case rel => exact ⟨by rw [HH.out]; rfl, _, rfl⟩
                  · skip
                    have htz : ((tn : Int) == 0) = false := by simp; omega
                    have HH := Lib.hid (show headOk (prevAt ls k) (f, ts) = true by rcases hf with rfl | rfl <;> simp [headOk, prevAt, hk0, Htl.out, ht0])
                    subst hk0
                    rcases hf with rfl | rfl
                    all_goals
                      go_quiet (fail)
                      go_wp2_with fail
                      go_meet
                      case rel => exact ⟨by rw [HH.out]; rfl, _, rfl⟩
                · have hkd : decide (0 < k) = true := by simp; omega
                  obtain ⟨g, hg1, hg2⟩ := Hpr.out (by omega)
                  have q2 : ((k : Int) - 1).toNat = k - 1 := by omega
                  have q3 : 0 ≤ (k : Int) - 1 := by omega
                  have q4 : (k : Int) - 1 < (nl : Int) := by omega
                  by_cases hfg : f = g
                  · skip
                    have HH := Lib.hid (show headOk (prevAt ls k) (f, ts) = false by simp [headOk, hg1, hfg])
                    subst hfg
                    rcases hf with rfl | rfl
                    all_goals
                      go_quiet (fail)
                      go_wp2_with fail
                      go_meet
                      case rel => exact ⟨by rw [HH.out]; rfl, _, rfl⟩
                  · by_cases ht0 : tn = 0
                    · skip
                      have hne : (f == g) = false := by simpa using hfg
                      have HH := Lib.hid (show headOk (prevAt ls k) (f, ts) = false by simp [headOk, Htl.out, ht0])
                      subst ht0
                      rcases hf with rfl | rfl
                      all_goals
                        go_quiet (fail)
                        go_wp2_with fail
                        go_meet
                        case rel => exact ⟨by rw [HH.out]; rfl, _, rfl⟩
                    · skip
                      have hne : (f == g) = false := by simpa using hfg
                      have htz : ((tn : Int) == 0) = false := by simp; omega
                      have HH := Lib.hid (show headOk (prevAt ls k) (f, ts) = true by rcases hf with rfl | rfl <;> simp [headOk, hg1, Htl.out, ht0, Ne.symm hfg])
                      rcases hf with rfl | rfl
                      all_goals
                        go_quiet (fail)
                        go_wp2_with fail
                        go_meet
                        case rel => exact ⟨by rw [HH.out]; rfl, _, rfl⟩
              · skip
                have hfa : (f != 0) = true := by simp; omega
                have hfb : (f != 1) = true := by simp; omega
                have HH := Lib.hid (show headOk (prevAt ls k) (f, ts) = false by simp [headOk]; omega)
                all_goals
                  go_quiet (fail)
                  go_wp2_with fail
                  go_meet
                  case rel => exact ⟨by rw [HH.out]; rfl, _, rfl⟩
            case rest =>
              obtain ⟨rfl, q, rfl⟩ := hcut
              have hkn : Kp wr ((wr.alloc (.cells #[iv f, .slice tp tn tc] 73)).drewN q) := Kp.trans (Kp.new _ _) (Kp.of_drewN _ _)
              have hd0 : ((wr.alloc (.cells #[iv f, .slice tp tn tc] 73)).drewN q).cell? ⟨wr.heap.size, 0, none⟩ = some (iv f) := Kp.cell (Kp.of_drewN _ _) (by rw [World.cell?_alloc_at _ _ _ _ rfl]; rfl)
              have hd1 : ((wr.alloc (.cells #[iv f, .slice tp tn tc] 73)).drewN q).cell? ⟨wr.heap.size, 1, none⟩ = some (.slice tp tn tc) := Kp.cell (Kp.of_drewN _ _) (by rw [World.cell?_alloc_at _ _ _ _ rfl]; rfl)
              generalize (wr.alloc (.cells #[iv f, .slice tp tn tc] 73)).drewN q = wq at *
              have hI := Kp.is hkn HI.out
              have hkq := Kp.trans hkw2 (Kp.trans hkk hkn)
              obtain ⟨bn, hbn⟩ : ∃ x, x = wr.heap.size := ⟨_, rfl⟩
              rw [← hbn] at hd0 hd1 ⊢
              clear hbn
              cases hh : headOk (prevAt ls k) (f, ts) with
              | false =>
                have HF := Lib.hid (show shapedL b0 b1 ls = false by rw [Hfin.out, Hline.out, Hat.out, hh]; rfl)
                clear hh
                go_wp2_with fail
                go_ret
                exact ⟨by rw [HF.out]; rfl, hkq⟩
              | true =>
                have Hh := Lib.hid hh; clear hh
                go_wp2_with fail
                go_loopw [67] (fun i wv => ∃ j : Nat, j ≤ tn ∧ i = .int .i64 j ∧ wq = wv ∧ ∀ j' (h : j' < ts.length), j' < j → 1 ≤ ts[j'] ∧ ts[j'] ≤ 7) (fun i _ => tn - (intOf i).toNat)
                case atStart => exact ⟨0, by omega, rfl, rfl, by omega⟩
                case round =>
                  obtain ⟨j, hj, rfl, rfl, hts⟩ := hrel
                  have Hts := Lib.hid hts; clear hts
                  by_cases hjt : j < tn
                  · obtain ⟨tb, toff, rfl, _, hcc⟩ := hI.at j hjt
                    have hck := hcc j hjt
                    have hjl : j < ts.length := by rw [Htl.out]; exact hjt
                    obtain ⟨t, ht⟩ : ∃ t, t = ts[j] := ⟨_, rfl⟩
                    rw [← ht] at hck
                    have Ht := Lib.hid ht; clear ht hcc
                    by_cases hr : 1 ≤ t ∧ t ≤ 7
                    · obtain ⟨hr1, hr2⟩ := hr
                      go_wp2_with fail
                      go_roundw
                      case rel =>
                        refine ⟨j + 1, by omega, by go_num, trivial, fun j' h hj' => ?_⟩
                        rcases Nat.lt_or_ge j' j with g | g
                        · exact Hts.out j' h g
                        · obtain rfl : j' = j := by omega
                          rw [← Ht.out]; exact ⟨hr1, hr2⟩
                      case measure => simp [intOf]; omega
                    · have HF := Lib.hid (show shapedL b0 b1 ls = false by
                        rw [Hfin.out, Hline.out, Hat.out, toksOk_no ts j hjl (by rw [← Ht.out]; exact hr)]; simp)
                      by_cases hr1 : t < 1
                      · go_wp2_with fail
                        go_ret
                        exact ⟨by rw [HF.out]; rfl, hkq⟩
                      · have hr2 : 7 < t := by omega
                        clear hr
                        go_wp2_with fail
                        go_ret
                        exact ⟨by rw [HF.out]; rfl, hkq⟩
                  · obtain rfl : j = tn := by omega
                    have htk := toksOk_yes ts (fun j' h => Hts.out j' h (by rw [← Htl.out]; exact h))
                    have Htk := Lib.hid htk; clear htk
                    by_cases h24 : n + j ≤ 24
                    · have HF := Lib.hid (show linesOk none 0 ls = linesOk (prevAt ls (k + 1)) (n + j) (ls.drop (k + 1)) by
                        rw [Hline.out, Hat.out, Hh.out]
                        simp only [Htk.out, Htl.out, decide_eq_true h24, Bool.true_and])
                      go_wp2_with fail
                      go_roundw
                      case rel => exact ⟨k + 1, n + j, by omega, h24, by go_num, rfl, Kp.trans hkk hkn, HF.out⟩
                      case measure => simp [intOf]; omega
                    · have HF := Lib.hid (show shapedL b0 b1 ls = false by
                        rw [Hfin.out, Hline.out, Hat.out, Hh.out]
                        simp only [Htk.out, Htl.out, decide_eq_false h24, Bool.true_and, Bool.false_and])
                      go_wp2_with fail
                      go_ret
                      exact ⟨by rw [HF.out]; rfl, hkq⟩
          · obtain rfl : k = ls.length := by rw [Hll.out]; omega
            have HF := Lib.hid (show shapedL b0 b1 ls = true by
              rw [Hfin.out, Hline.out, List.drop_of_length_le (Nat.le_refl _)]; rfl)
            obtain rfl : nl = ls.length := Hll.out.symm
            have hkq := Kp.trans hkw2 hkk
            go_wp2_with fail
            go_ret
            exact ⟨by rw [HF.out]; rfl, hkq⟩
end Go.Proofs.YtkmejehhdjdlbaaGreatDoor
