/- The law's own comparison of two patterns. Conditions: the patterns lie there (Is, Lns). -/
import Derived.Test.YtpemfmjplejdiaaDoorLists
namespace Go.Proofs.YtpemfmjplejdiaaDoor
open Go.RowKit

/-- Two patterns, but for their names. -/
def sameL (b0 b1 : List Int) (ls : List Ln) (d0 d1 : List Int) (ms : List Ln) : Bool := b0 == d0 && (b1 == d1 && ls == ms)

theorem lists_kp (w : World) (ao bo : Option Addr) (n m c d : Nat) (xs ys : List Int) (hx : Is w ao n xs) (hy : Is w bo m ys) :
    Calls Tryd.prog 33 #[.slice ao n c, .slice bo m d] w fun e w' => e = .returned (.bool (xs == ys)) ∧ Kp w w' :=
  (lists_any w ao bo n m c d xs ys hx hy).mono (by rintro e w' ⟨rfl, q, rfl⟩; exact ⟨rfl, Kp.of_drewN _ _⟩)

set_option maxRecDepth 100000 in
set_option maxHeartbeats 4000000 in
theorem same_any (w : World) (nm nm' : ByteArray) (a0 a1 al e0 e1 el : Option Addr) (n0 c0 n1 c1 nl cl m0 f0 m1 f1 ml fl : Nat) (b0 b1 : List Int) (ls : List Ln) (d0 d1 : List Int) (ms : List Ln)
    (h0 : Is w a0 n0 b0) (h1 : Is w a1 n1 b1) (hl : Lns w al nl ls) (g0 : Is w e0 m0 d0) (g1 : Is w e1 m1 d1) (gl : Lns w el ml ms) :
    Calls Tryd.prog 18 #[.agg #[.string nm, .slice a0 n0 c0, .slice a1 n1 c1, .slice al nl cl], .agg #[.string nm', .slice e0 m0 f0, .slice e1 m1 f1, .slice el ml fl]] w fun e w' => e = .returned (.bool (sameL b0 b1 ls d0 d1 ms)) ∧ Kp w w' := by
  have hnl := hl.2.1
  have hml := gl.2.1
  have Hll := Lib.hid hl.1
  have Hml := Lib.hid gl.1
  have hk1 := Kp.new w (.cells #[.string nm, .slice a0 n0 c0, .slice a1 n1 c1, .slice al nl cl] 26)
  have hk2 := Kp.new (w.alloc (.cells #[.string nm, .slice a0 n0 c0, .slice a1 n1 c1, .slice al nl cl] 26)) (.cells #[.string nm', .slice e0 m0 f0, .slice e1 m1 f1, .slice el ml fl] 26)
  have hA : ∀ j v, [Value.string nm, .slice a0 n0 c0, .slice a1 n1 c1, .slice al nl cl][j]? = some v → ((w.alloc (.cells #[.string nm, .slice a0 n0 c0, .slice a1 n1 c1, .slice al nl cl] 26)).alloc (.cells #[.string nm', .slice e0 m0 f0, .slice e1 m1 f1, .slice el ml fl] 26)).cell? ⟨w.heap.size, j, none⟩ = some v := fun j v hv => by
    refine Kp.cell hk2 ?_
    rw [World.cell?_alloc_at _ _ _ _ rfl]
    simpa using hv
  have hB : ∀ j v, [Value.string nm', .slice e0 m0 f0, .slice e1 m1 f1, .slice el ml fl][j]? = some v → ((w.alloc (.cells #[.string nm, .slice a0 n0 c0, .slice a1 n1 c1, .slice al nl cl] 26)).alloc (.cells #[.string nm', .slice e0 m0 f0, .slice e1 m1 f1, .slice el ml fl] 26)).cell? ⟨w.heap.size + 1, j, none⟩ = some v := fun j v hv => by
    rw [World.cell?_alloc_at _ _ _ _ (by simp)]
    simpa using hv
  have hkw := Kp.trans hk1 hk2
  have A1 := hA 1 _ rfl
  have A2 := hA 2 _ rfl
  have A3 := hA 3 _ rfl
  have B1 := hB 1 _ rfl
  have B2 := hB 2 _ rfl
  have B3 := hB 3 _ rfl
  clear hA hB hk1 hk2
  go_enter Tryd.func18, Tryd.ntmps18
  go_wp2_with fail
  generalize (w.alloc (.cells #[.string nm, .slice a0 n0 c0, .slice a1 n1 c1, .slice al nl cl] 26)).alloc (.cells #[.string nm', .slice e0 m0 f0, .slice e1 m1 f1, .slice el ml fl] 26) = wb at *
  (with_reducible refine (lists_kp wb a0 e0 n0 m0 c0 f0 b0 d0 (Kp.is hkw h0) (Kp.is hkw g0)).mono ?_)
  rintro e w1 ⟨rfl, hk1⟩
  have A1 := Kp.cell hk1 A1
  have A2 := Kp.cell hk1 A2
  have A3 := Kp.cell hk1 A3
  have B1 := Kp.cell hk1 B1
  have B2 := Kp.cell hk1 B2
  have B3 := Kp.cell hk1 B3
  have hkw := Kp.trans hkw hk1
  cases hq0 : b0 == d0 with
  | false =>
    have HF := Lib.hid (show sameL b0 b1 ls d0 d1 ms = false by unfold sameL; rw [hq0]; rfl)
    clear hq0
    go_wp2_with fail
    go_ret
    exact ⟨by rw [HF.out]; rfl, hkw⟩
  | true =>
    have Hq0 := Lib.hid hq0; clear hq0
    go_wp2_with fail
    (with_reducible refine (lists_kp w1 a1 e1 n1 m1 c1 f1 b1 d1 (Kp.is hkw h1) (Kp.is hkw g1)).mono ?_)
    rintro e w2 ⟨rfl, hk2⟩
    have A3 := Kp.cell hk2 A3
    have B3 := Kp.cell hk2 B3
    have hkw := Kp.trans hkw hk2
    cases hq1 : b1 == d1 with
    | false =>
      have HF := Lib.hid (show sameL b0 b1 ls d0 d1 ms = false by unfold sameL; rw [hq1]; simp)
      clear hq1
      go_wp2_with fail
      go_ret
      exact ⟨by rw [HF.out]; rfl, hkw⟩
    | true =>
      have HF0 := Lib.hid (show sameL b0 b1 ls d0 d1 ms = (ls == ms) by unfold sameL; rw [Hq0.out, hq1]; simp)
      clear hq1
      by_cases hnm : nl = ml
      · subst hnm
        go_wp2_with fail
        go_loopw [5] (fun i wr => ∃ k : Nat, k ≤ nl ∧ i = .int .i64 k ∧ Kp w2 wr ∧ ls.take k = ms.take k) (fun i _ => nl - (intOf i).toNat)
        case atStart => exact ⟨0, by omega, rfl, Kp.refl _, rfl⟩
        case round =>
          obtain ⟨k, hk, rfl, hkk, htk⟩ := hrel
          have A3 := Kp.cell hkk A3
          have B3 := Kp.cell hkk B3
          have hkr := Kp.trans hkw hkk
          by_cases hlt : k < nl
          · have hkl : k < ls.length := by rw [Hll.out]; exact hlt
            have hkm : k < ms.length := by rw [Hml.out]; exact hlt
            obtain ⟨b, off, tp, tn, tc, rfl, hc1, hc2, hI, htn⟩ := hl.2.2 k hkl
            obtain ⟨b', off', tp', tn', tc', rfl, hd1, hd2, hJ, htn'⟩ := gl.2.2 k hkm
            have hc1 := Kp.cell hkr hc1
            have hc2 := Kp.cell hkr hc2
            have hd1 := Kp.cell hkr hd1
            have hd2 := Kp.cell hkr hd2
            have hcut := lists_cut ls ms (by rw [Hll.out, Hml.out]) k hkl htk
            obtain ⟨f, ts, hft⟩ : ∃ f ts, ls[k] = (f, ts) := ⟨_, _, rfl⟩
            obtain ⟨f', ts', hft'⟩ : ∃ f ts, ms[k] = (f, ts) := ⟨_, _, rfl⟩
            rw [hft] at hc1 hI hcut
            rw [hft'] at hd1 hJ hcut
            have hI : Is w tp tn ts := hI
            have hJ : Is w tp' tn' ts' := hJ
            have hc1 : wr.cell? ⟨b, off + k * 2, none⟩ = some (iv f) := hc1
            have hd1 : wr.cell? ⟨b', off' + k * 2, none⟩ = some (iv f') := hd1
            have Hcall := Lib.hid (show ∀ q, Calls Tryd.prog 33 #[.slice tp tn tc, .slice tp' tn' tc'] (wr.drewN q) fun e w' => e = .returned (.bool (ts == ts')) ∧ ∃ k, w' = (wr.drewN q).drewN k from fun q => lists_any (wr.drewN q) tp tp' tn tn' tc tc' ts ts' (Kp.is (Kp.trans hkr (Kp.of_drewN _ _)) hI) (Kp.is (Kp.trans hkr (Kp.of_drewN _ _)) hJ))
            clear hft hft' hI hJ htk
            by_cases hff : f = f'
            · subst hff
              have hfb : (f != f) = false := by simp
              cases hts : ts == ts' with
              | true =>
                obtain rfl : ts = ts' := by simpa using hts
                have Hc := Lib.hid (hcut.1 rfl)
                have Hc2 := Lib.hid hts
                clear hcut hts
                go_wp2_with fail
                rw [Hc2.out] at Hcall
                go_quiet ((go_at_call 33; exact Calls.quiet_of (Hcall.out _)))
                go_wp2_with fail
                go_roundw
                case rel => exact ⟨k + 1, by omega, by go_num, Kp.trans hkk (Kp.of_drewN _ _), Hc.out⟩
                case measure => simp [intOf]; omega
              | false =>
                have HF := Lib.hid (show sameL b0 b1 ls d0 d1 ms = false by
                  rw [HF0.out]
                  have := hcut.2 (by intro h; simp only [Prod.mk.injEq, true_and] at h; rw [h] at hts; simp at hts)
                  simpa using this)
                rw [hts] at Hcall
                clear hcut hts
                go_wp2_with fail
                go_quiet ((go_at_call 33; exact Calls.quiet_of (Hcall.out _)))
                go_wp2_with fail
                go_ret
                exact ⟨by rw [HF.out]; rfl, Kp.trans hkr (Kp.of_drewN _ _)⟩
            · have hfb : (f != f') = true := by simpa using hff
              have HF := Lib.hid (show sameL b0 b1 ls d0 d1 ms = false by
                rw [HF0.out]
                have := hcut.2 (by intro h; simp only [Prod.mk.injEq] at h; exact hff h.1)
                simpa using this)
              clear hcut hff
              go_wp2_with fail
              go_quiet (fail)
              go_wp2_with fail
              go_ret
              exact ⟨by rw [HF.out]; rfl, Kp.trans hkr (Kp.of_drewN _ _)⟩
          · have HF := Lib.hid (show sameL b0 b1 ls d0 d1 ms = true by
              rw [HF0.out]
              rw [List.take_of_length_le (by rw [Hll.out]; omega), List.take_of_length_le (by rw [Hml.out]; omega)] at htk
              simp [htk])
            clear htk
            go_wp2_with fail
            go_ret
            exact ⟨by rw [HF.out]; rfl, hkr⟩
      · have HF := Lib.hid (show sameL b0 b1 ls d0 d1 ms = false by
          rw [HF0.out]
          cases hq : (ls == ms) with
          | false => rfl
          | true => exact absurd (by rw [← Hll.out, ← Hml.out, beq_iff_eq.1 hq]) hnm)
        have hb : ((nl : Int) != (ml : Int)) = true := by simp; omega
        clear hnm
        go_wp2_with fail
        go_ret
        exact ⟨by rw [HF.out]; rfl, hkw⟩
end Go.Proofs.YtpemfmjplejdiaaDoor
