/- PatternOnce: the law's function answers true. Conditions: the variables lie there (Env); the pattern and the words lie there. -/
import Derived.Test.YtkmejehhdjdlbaaGreatDoorKn
import Derived.Test.YtkmejehhdjdlbaaGreatDoorOnce
import Derived.Test.YtkmejehhdjdlbaaGreatDoorGc8
namespace Go.Proofs.YtkmejehhdjdlbaaGreatDoor
open Go.RowKit

theorem mdf_bad {nm : Q.Bt} {b0 b1 : List Int} {ls : List Ln} {ws : List Q.Bt} (h : checkL b0 b1 ls ≠ 0) : mdf ⟨nm, b0, b1, ls⟩ ws = (⟨#[]⟩, [], [], [], checkL b0 b1 ls) := by
  unfold mdf Q.modR
  rw [if_pos (show Q.Pn.code ⟨nm, b0, b1, ls⟩ ≠ 0 from h)]
  rfl
theorem mdf_ok (p : Q.Pn) (ws : List Q.Bt) : (mdf p ws).2.2.2.2 = 0 → checkL (mdf p ws).2.1 (mdf p ws).2.2.1 (mdf p ws).2.2.2.1 = 0 := by
  have hc := modR_code p ws
  have hq : ∀ q c, Q.modR p ws = (some q, c) → q.code = 0 := by
    intro q c
    unfold Q.modR
    split
    · intro h; cases h
    · split
      · intro h; cases h
      · rename_i q' _
        by_cases h0 : q'.code = 0
        · rw [if_pos h0]; intro h; cases h; exact h0
        · rw [if_neg h0]; intro h; cases h
  unfold mdf
  generalize Q.modR p ws = x at hc hq
  obtain ⟨q, c⟩ := x
  cases q with
  | none => exact fun h => absurd h hc.1
  | some q => exact fun _ => hq q c rfl
set_option maxRecDepth 100000 in
set_option maxHeartbeats 8000000 in
theorem once_true (w : World) (E : Nat → Addr) (m : Int) (hE : Env w E m) (nm : ByteArray) (a0 a1 al : Option Addr) (n0 c0 n1 c1 nl cl : Nat) (b0 b1 : List Int) (ls : List Ln) (hnm : nm.size ≤ 9223372036854775807) (hP : PatI w a0 a1 al n0 n1 nl b0 b1 ls)
    (ao : Option Addr) (nw cw : Nat) (ss : List ByteArray) (hW : Strs w ao nw ss) (hz : ∀ s ∈ ss, s.size ≤ 281474976710656) :
    Calls Tryz.prog 11 #[patV nm a0 a1 al n0 c0 n1 c1 nl cl, .slice ao nw cw] w fun e w' => e = .returned (.bool true) ∧ Kp w w' := by
  have HE := Lib.hid hE
  have HPI := Lib.hid hP
  have HW := Lib.hid hW
  have Hz := Lib.hid hz
  have hk1 := Kp.new w (.cells #[.string nm, .slice a0 n0 c0, .slice a1 n1 c1, .slice al nl cl] 26)
  have hF1 := Four.new w (.string nm) (.slice a0 n0 c0) (.slice a1 n1 c1) (.slice al nl cl) 26
  have HMu := Lib.hid (much_any _ nm a0 a1 al n0 c0 n1 c1 nl cl b0 b1 ls hnm (hP.kp hk1))
  have HF1 := Lib.hid hF1
  have Hk1 := Lib.hid hk1
  obtain ⟨y0, y1, y2, y3, z0, z1, z2, z3⟩ := hF1
  clear hE hP hW hz hk1 z0 z1 z2 z3
  go_enter Tryz.func11, Tryz.ntmps11
  go_upto_region 1 with fail
  obtain ⟨bx, hbx⟩ : ∃ bx, bx = w.heap.size := ⟨_, rfl⟩
  rw [← hbx] at HF1 y0 y1 y2 y3 ⊢
  generalize w.alloc (.cells #[.string nm, .slice a0 n0 c0, .slice a1 n1 c1, .slice al nl cl] 26) = w1 at *
  clear hbx
  go_wp2_with fail
  (with_reducible refine HMu.out.mono ?_)
  rintro e w2 ⟨b, rfl, hk2, hb⟩
  have Hk2 := Lib.hid (Kp.trans Hk1.out hk2)
  have HF2 := Lib.hid (HF1.out.kp hk2)
  clear y0 y1 y2 y3 hk2
  cases b with
  | true =>
    clear hb
    have HKn := Lib.hid (law_known w2 E m (HE.out.keep Hk2.out))
    go_wp2_with fail
    (with_reducible refine HKn.out.mono ?_)
    rintro e w3 ⟨rfl, hk3⟩
    have Hk3 := Lib.hid (Kp.trans Hk2.out hk3)
    clear hk3
    go_wp2_with fail
    go_ret
    exact ⟨rfl, Hk3.out⟩
  | false =>
    have Hs := Lib.hid (hb rfl)
    clear hb
    by_cases h2 : 200 < nw
    · have HKn := Lib.hid (law_known w2 E m (HE.out.keep Hk2.out))
      go_wp2_with fail
      (with_reducible refine HKn.out.mono ?_)
      rintro e w3 ⟨rfl, hk3⟩
      have Hk3 := Lib.hid (Kp.trans Hk2.out hk3)
      clear hk3
      go_wp2_with fail
      go_ret
      exact ⟨rfl, Hk3.out⟩
    · have h2n : nw ≤ 200 := by omega
      have HCk := Lib.hid (check_any w2 E (HE.out.keep Hk2.out).errs nm a0 a1 al n0 c0 n1 c1 nl cl b0 b1 ls (HPI.out.kp Hk2.out).i0 (HPI.out.kp Hk2.out).i1 (HPI.out.kp Hk2.out).il)
      obtain ⟨y0, y1, y2, y3, _, _, _, _⟩ := HF2.out
      by_cases hck : checkL b0 b1 ls = 0
      · have Hck := Lib.hid hck
        rw [hck, errV_nil] at HCk
        clear hck
        have hne : 0 < nl := by rw [← HPI.out.il.1]; exact List.length_pos_iff.2 (code0 Hck.out).2.2.1
        go_wp2_with fail
        (with_reducible refine HCk.out.mono ?_)
        rintro e w3 ⟨rfl, hk3⟩
        have Hk3 := Lib.hid (Kp.trans Hk2.out hk3)
        have HF3 := Lib.hid (HF2.out.kp hk3)
        clear y0 y1 y2 y3 HCk hk3
        have HO := Lib.hid (once_any w3 nm a0 a1 al n0 c0 n1 c1 nl cl b0 b1 ls (HPI.out.kp Hk3.out) Hck.out)
        obtain ⟨y0, y1, y2, y3, _, _, _, _⟩ := HF3.out
        go_wp2_with fail
        (with_reducible refine HO.out.mono ?_)
        rintro e w4 ⟨rfl, hk4⟩
        have Hk4 := Lib.hid (Kp.trans Hk3.out hk4)
        have HF4 := Lib.hid (HF3.out.kp hk4)
        clear y0 y1 y2 y3 HO hk4
        obtain ⟨y0, y1, y2, y3, _, _, _, _⟩ := HF4.out
        have Hok := Lib.hid (mdf_ok ⟨nm.data.toList, b0, b1, ls⟩ (wb ss))
        have HC := Lib.hid (mod_all w4 E m (HE.out.keep Hk4.out) nm a0 a1 al n0 c0 n1 c1 nl cl b0 b1 ls (HPI.out.kp Hk4.out) Hs.out ao nw cw ss (Hk4.out.strs HW.out) Hz.out h2n)
        generalize mdf ⟨nm.data.toList, b0, b1, ls⟩ (wb ss) = x at HC Hok
        obtain ⟨nq, d0, d1, dl, c⟩ := x
        simp only at HC Hok
        go_wp2_with fail
        (with_reducible refine HC.out.mono ?_)
        rintro e w5 ⟨hk5, t0, t1, tl, rfl, hPX⟩
        unfold tvv
        have hPq := hPX [] w5 (Fr.refl _ _) (by simp)
        have hk6 := Kp.new w5 (.cells #[.string nq, .slice t0.ao t0.n t0.c, .slice t1.ao t1.n t1.c, .slice tl.ao tl.n tl.c] 26)
        have hF6 := Four.new w5 (.string nq) (.slice t0.ao t0.n t0.c) (.slice t1.ao t1.n t1.c) (.slice tl.ao tl.n tl.c) 26
        have HPq := Lib.hid (hPq.kp hk6)
        have Hk6 := Lib.hid (Kp.trans Hk4.out (Kp.trans hk5 hk6))
        clear hPX hPq hk5 hk6 y0 y1 y2 y3 HC
        by_cases hc : c = 0
        · have Hq := Lib.hid (Hok.out hc)
          subst hc
          rw [errV_nil]
          go_upto_region 9 with fail
          generalize w5.alloc (.cells #[.string nq, .slice t0.ao t0.n t0.c, .slice t1.ao t1.n t1.c, .slice tl.ao tl.n tl.c] 26) = w6 at *
          generalize w5.heap.size = p6 at *
          have HF6 := Lib.hid hF6
          clear hF6
          obtain ⟨y0, y1, y2, y3, _, _, _, _⟩ := HF6.out
          have hnq : 0 < tl.n := by rw [← HPq.out.il.1]; exact List.length_pos_iff.2 (code0 Hq.out).2.2.1
          have HO := Lib.hid (once_any w6 nq t0.ao t1.ao tl.ao t0.n t0.c t1.n t1.c tl.n tl.c d0 d1 dl HPq.out Hq.out)
          go_wp2_with fail
          (with_reducible refine HO.out.mono ?_)
          rintro e w7 ⟨rfl, hk7⟩
          have Hk7 := Lib.hid (Kp.trans Hk6.out hk7)
          have HPr := Lib.hid (HPq.out.kp hk7)
          clear y0 y1 y2 y3 HO
          obtain ⟨y0, y1, y2, y3, _, _, _, _⟩ := HF6.out.kp hk7
          clear hk7
          have HCk := Lib.hid (check_any w7 E (HE.out.keep Hk7.out).errs nq t0.ao t1.ao tl.ao t0.n t0.c t1.n t1.c tl.n tl.c d0 d1 dl HPr.out.i0 HPr.out.i1 HPr.out.il)
          rw [Hq.out, errV_nil] at HCk
          go_wp2_with fail
          (with_reducible refine HCk.out.mono ?_)
          rintro e w8 ⟨rfl, hk8⟩
          have Hk8 := Lib.hid (Kp.trans Hk7.out hk8)
          clear hk8 y0 y1 y2 y3
          have HKn := Lib.hid (law_known w8 E m (HE.out.keep Hk8.out))
          go_wp2_with fail
          (with_reducible refine HKn.out.mono ?_)
          rintro e w3 ⟨rfl, hk3⟩
          have Hk3 := Lib.hid (Kp.trans Hk8.out hk3)
          clear hk3
          go_wp2_with fail
          go_ret
          exact ⟨rfl, Hk3.out⟩
        · rw [errV_ptr E hc]
          clear hc
          go_upto_region 9 with fail
          generalize w5.alloc (.cells #[.string nq, .slice t0.ao t0.n t0.c, .slice t1.ao t1.n t1.c, .slice tl.ao tl.n tl.c] 26) = w6 at *
          generalize w5.heap.size = p6 at *
          clear hF6
          have HKn := Lib.hid (law_known w6 E m (HE.out.keep Hk6.out))
          go_wp2_with fail
          (with_reducible refine HKn.out.mono ?_)
          rintro e w3 ⟨rfl, hk3⟩
          have Hk3 := Lib.hid (Kp.trans Hk6.out hk3)
          clear hk3
          go_wp2_with fail
          go_ret
          exact ⟨rfl, Hk3.out⟩
      · have hbad := mdf_bad (nm := nm.data.toList) (ws := wb ss) hck
        have Hbad := Lib.hid hbad
        have Hck := Lib.hid hck
        rw [errV_ptr E hck] at HCk
        clear hck hbad
        go_wp2_with fail
        (with_reducible refine HCk.out.mono ?_)
        rintro e w3 ⟨rfl, hk3⟩
        have Hk3 := Lib.hid (Kp.trans Hk2.out hk3)
        clear y0 y1 y2 y3 HCk
        obtain ⟨y0, y1, y2, y3, _, _, _, _⟩ := HF2.out.kp hk3
        clear hk3
        have HC := Lib.hid (mod_all w3 E m (HE.out.keep Hk3.out) nm a0 a1 al n0 c0 n1 c1 nl cl b0 b1 ls (HPI.out.kp Hk3.out) Hs.out ao nw cw ss (Hk3.out.strs HW.out) Hz.out h2n)
        go_wp2_with fail
        (with_reducible refine HC.out.mono ?_)
        rintro e w4 ⟨hk4, t0, t1, tl, rfl, _⟩
        rw [Hbad.out, errV_ptr E Hck.out]
        unfold tvv
        have hk5 := Kp.new w4 (.cells #[.string ⟨#[]⟩, .slice t0.ao t0.n t0.c, .slice t1.ao t1.n t1.c, .slice tl.ao tl.n tl.c] 26)
        have Hk5 := Lib.hid (Kp.trans Hk3.out (Kp.trans hk4 hk5))
        clear hk4 hk5 y0 y1 y2 y3
        go_upto_region 5 with fail
        generalize w4.alloc (.cells #[.string ⟨#[]⟩, .slice t0.ao t0.n t0.c, .slice t1.ao t1.n t1.c, .slice tl.ao tl.n tl.c] 26) = w5 at *
        generalize w4.heap.size = p5 at *
        have HKn := Lib.hid (law_known w5 E m (HE.out.keep Hk5.out))
        go_wp2_with fail
        (with_reducible refine HKn.out.mono ?_)
        rintro e w3 ⟨rfl, hk3⟩
        have Hk3 := Lib.hid (Kp.trans Hk5.out hk3)
        clear hk3
        go_wp2_with fail
        go_ret
        exact ⟨rfl, Hk3.out⟩
end Go.Proofs.YtkmejehhdjdlbaaGreatDoor
