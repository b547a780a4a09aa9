/- PlanUnrolls: the walk. Conditions: the pattern lies there (Is, Lns), the errors too (ErrsX). -/
import Derived.Test.YtpemfmjplejdiaaDoorBack
import Derived.Test.YtpemfmjplejdiaaDoorLent
import Derived.Test.YtpemfmjplejdiaaDoorRefUnrollT
import Derived.Test.YtpemfmjplejdiaaDoorRefUnrollF
import Derived.Test.YtpemfmjplejdiaaDoorCode
import Derived.Test.YtpemfmjplejdiaaDoorUnrollF
import Derived.Test.YtpemfmjplejdiaaDoorUnrollT
import Derived.Test.YtpemfmjplejdiaaDoorAwake
namespace Go.Proofs.YtpemfmjplejdiaaDoor
open Go.RowKit

theorem offL_mem (S : Nat → Bool) (f t : Int) (l : Bool) : offL S f t l = 0 ∨ offL S f t l = 10 ∨ offL S f t l = 11 ∨ offL S f t l = 12 := by
  unfold offL
  repeat' split
  all_goals simp
theorem runToks_mem (f : Int) : ∀ (ts : List Int) (S : Nat → Bool), (runToks S f ts).1 = 0 ∨ (runToks S f ts).1 = 10 ∨ (runToks S f ts).1 = 11 ∨ (runToks S f ts).1 = 12
  | [], _ => .inl rfl
  | t :: r, S => by
    unfold runToks
    split
    · exact runToks_mem f r _
    · exact offL_mem S f t _
theorem runLs_mem : ∀ (ls : List Ln) (S : Nat → Bool), (runLs S ls).1 = 0 ∨ (runLs S ls).1 = 10 ∨ (runLs S ls).1 = 11 ∨ (runLs S ls).1 = 12
  | [], _ => .inl rfl
  | l :: r, S => by
    unfold runLs
    split
    · exact runLs_mem r _
    · exact runToks_mem _ _ _
theorem checkL_mem (b0 b1 : List Int) (ls : List Ln) : checkL b0 b1 ls = 0 ∨ checkL b0 b1 ls = 9 ∨ checkL b0 b1 ls = 10 ∨ checkL b0 b1 ls = 11 ∨ checkL b0 b1 ls = 12 := by
  unfold checkL
  split
  · split
    · unfold endL; split <;> simp
    · rcases runLs_mem ls (begunL b0 b1) with h | h | h | h <;> rw [h] <;> simp
  · simp
theorem code_nil (w : World) (E : Nat → Addr) (h : ErrsX w E) : Calls Tryd.prog 14 #[.nilIface] w fun e w' => e = .returned (iv 0) ∧ w' = w := code_0 w E h
theorem errV_ne (E : Nat → Addr) {c : Nat} (h : c ≠ 0) : errV E c = .iface 107 (.pointer (some (E c))) := by unfold errV; rw [if_neg h]
theorem refUnroll_any (ini : Bool) (w : World) (nm : ByteArray) (a0 a1 al : Option Addr) (n0 c0 n1 c1 nl cl : Nat) (b0 b1 : List Int) (ls : List Ln) (h0 : Is w a0 n0 b0) (h1 : Is w a1 n1 b1) (hl : Lns w al nl ls) :
    Calls Tryd.prog 13 #[.agg #[.string nm, .slice a0 n0 c0, .slice a1 n1 c1, .slice al nl cl], .bool ini] w (UnrollRPost w ini b0 b1 ls) := by
  cases ini with
  | true => exact refUnroll_true w nm a0 a1 al n0 c0 n1 c1 nl cl b0 b1 ls h0 h1 hl
  | false => exact refUnroll_false w nm a0 a1 al n0 c0 n1 c1 nl cl b0 b1 ls h0 h1 hl
theorem unrollP_any (ini : Bool) (w : World) (E : Nat → Addr) (hE : Errs w E) (nm : ByteArray) (a0 a1 al : Option Addr) (n0 c0 n1 c1 nl cl : Nat) (b0 b1 : List Int) (ls : List Ln) (h0 : Is w a0 n0 b0) (h1 : Is w a1 n1 b1) (hl : Lns w al nl ls) :
    Calls Tryd.prog 12 #[.agg #[.string nm, .slice a0 n0 c0, .slice a1 n1 c1, .slice al nl cl], .bool ini] w (UnrollPost w E ini b0 b1 ls) := by
  cases ini with
  | true => exact unroll_true w E hE nm a0 a1 al n0 c0 n1 c1 nl cl b0 b1 ls h0 h1 hl
  | false => exact unroll_false w E hE nm a0 a1 al n0 c0 n1 c1 nl cl b0 b1 ls h0 h1 hl

set_option maxRecDepth 100000 in
set_option maxHeartbeats 8000000 in
theorem unrolls_any (w : World) (E : Nat → Addr) (hE : ErrsX w E) (ini : Bool) (nm : ByteArray) (a0 a1 al : Option Addr) (n0 c0 n1 c1 nl cl : Nat) (b0 b1 : List Int) (ls : List Ln) (hnm : nm.size ≤ 9223372036854775807) (h0 : Is w a0 n0 b0) (h1 : Is w a1 n1 b1) (hl : Lns w al nl ls) :
    Calls Tryd.prog 3 #[.agg #[.string nm, .slice a0 n0 c0, .slice a1 n1 c1, .slice al nl cl], .bool ini] w fun e w' => e = .returned (.bool true) ∧ Kp w w' := by
  have hkb := Kp.new w (.cells #[.string nm, .slice a0 n0 c0, .slice a1 n1 c1, .slice al nl cl] 26)
  have hB := Bx.new w nm a0 a1 al n0 c0 n1 c1 nl cl
  obtain ⟨wb, hwb⟩ : ∃ wb, wb = w.alloc (.cells #[.string nm, .slice a0 n0 c0, .slice a1 n1 c1, .slice al nl cl] 26) := ⟨_, rfl⟩
  rw [← hwb] at hkb hB
  obtain ⟨bx, hbx⟩ : ∃ bx, bx = w.heap.size := ⟨_, rfl⟩
  rw [← hbx] at hB
  have hEb := hE.keep hkb
  replace h0 := hkb.is h0
  replace h1 := hkb.is h1
  replace hl := hkb.lns hl
  clear hE
  have HL := Lib.hid (largeB_any wb nm a0 a1 al n0 c0 n1 c1 nl cl b0 b1 ls hnm h0 h1 hl)
  have HA := Lib.hid (fun w' (k : Kp wb w') => awake_any w' E (hEb.keep k).errs)
  have HLe := Lib.hid (fun (hs : SmallP n0 n1 nl nm.size ls) w' (k : Kp wb w') => lent_any w' nm a0 a1 al n0 c0 n1 c1 nl cl b0 b1 ls (k.is h0) (k.is h1) (k.lns hl) hs)
  have HR := Lib.hid (fun w' (k : Kp wb w') => refUnroll_any ini w' nm a0 a1 al n0 c0 n1 c1 nl cl b0 b1 ls (k.is h0) (k.is h1) (k.lns hl))
  have HI := Lib.hid (And.intro hEb (And.intro h0 (And.intro h1 hl)))
  have Hkb := Lib.hid hkb
  have HB := Lib.hid hB
  obtain ⟨q0, q1, q2, q3⟩ := hB
  clear h0 h1 hl hEb hkb
  go_enter Tryd.func3, Tryd.ntmps3
  go_upto_region 1 with fail
  rw [← hwb, ← hbx]
  clear hwb hbx
  go_wp2_with fail
  (with_reducible refine HL.out.mono ?_)
  rintro e w1 ⟨bl, rfl, hk1, hsm⟩
  have Hsm := Lib.hid hsm; clear hsm
  cases bl with
  | true =>
    go_wp2_with fail
    (with_reducible refine (HA.out w1 hk1).mono ?_)
    rintro e w2 ⟨rfl, hk2⟩
    go_wp2_with fail
    go_ret
    exact ⟨rfl, Kp.trans Hkb.out (Kp.trans hk1 hk2)⟩
  | false =>
    have hsm := Hsm.out rfl
    have hs0 := hsm.1
    have hs1 := hsm.2.1
    replace q0 := hk1.cell q0
    replace q1 := hk1.cell q1
    replace q2 := hk1.cell q2
    replace q3 := hk1.cell q3
    have HLs := Lib.hid (HLe.out hsm w1 hk1)
    clear hsm HLe
    go_wp2_with fail
    (with_reducible refine HLs.out.mono ?_)
    rintro e w2 ⟨hk2, p0, d0, p1, d1, pl, dl, rfl, r0, r1, rl⟩
    have hk12 := Kp.trans hk1 hk2
    have hkq := Kp.new w2 (.cells #[.string nm, .slice p0 n0 d0, .slice p1 n1 d1, .slice pl nl dl] 26)
    have hQ := Bx.new w2 nm p0 p1 pl n0 d0 n1 d1 nl dl
    clear HLs q0 q1 q2 q3
    go_upto_region 4 with fail
    generalize w2.alloc (.cells #[.string nm, .slice p0 n0 d0, .slice p1 n1 d1, .slice pl nl dl] 26) = w3 at *
    generalize w2.heap.size = bq at *
    replace r0 := r0.kp hkq
    replace r1 := r1.kp hkq
    replace rl := rl.kp hkq
    have hk3 := Kp.trans hk12 hkq
    have HQ := Lib.hid hQ
    obtain ⟨q0, q1, q2, q3⟩ := hQ
    have HU := Lib.hid (unrollP_any ini w3 E (HI.out.1.keep hk3).errs nm p0 p1 pl n0 d0 n1 d1 nl dl b0 b1 ls r0.1 r1.1 rl.lns)
    have HK := Lib.hid (fun w' (k : Kp w3 w') => back_any w' w1.heap.size nm nm p0 p1 pl a0 a1 al n0 d0 n1 d1 nl dl c0 c1 cl b0 b1 ls (r0.kp k) (r1.kp k) (rl.kp k) ((Kp.trans hk3 k).is HI.out.2.1) ((Kp.trans hk3 k).is HI.out.2.2.1) ((Kp.trans hk3 k).lns HI.out.2.2.2) hs0 hs1)
    clear r0 r1 rl hk1 hk2 hk12 hkq
    go_wp2_with fail
    (with_reducible refine HU.out.mono ?_)
    rintro e w4 ⟨hk4, h⟩
    have hb4 := Kp.trans hk3 hk4
    obtain ⟨y0, y1, y2, y3⟩ := HB.out.kp hb4
    clear q0 q1 q2 q3 HU
    have hcm := checkL_mem b0 b1 ls
    by_cases hc : checkL b0 b1 ls = 0
    · rw [if_pos hc] at h
      obtain ⟨ao, n, cap, rfl, hM⟩ := h
      go_wp2_with fail
      (with_reducible refine (HR.out w4 hb4).mono ?_)
      rintro e w5 ⟨hk5, h⟩
      rw [if_pos hc] at h
      obtain ⟨bo, m, bcap, rfl, hM'⟩ := h
      have hb5 := Kp.trans hb4 hk5
      have hk35 := Kp.trans hk4 hk5
      have HC := Lib.hid (code_nil w5 E (HI.out.1.keep hb5))
      have HM := Lib.hid (moves2_any w5 ao bo n m cap bcap _ _ ((hM.keep hk5).mvs) hM'.mvs)
      clear hM hM' hc hcm y0 y1 y2 y3
      go_wp2_with fail
      (with_reducible refine HC.out.mono ?_)
      rintro e w6 ⟨rfl, rfl⟩
      go_wp2_with fail
      (with_reducible refine HM.out.mono ?_)
      rintro e w7 ⟨rfl, hk7⟩
      rw [beq_self_eq_true]
      have hk37 := Kp.trans hk35 hk7
      obtain ⟨y0, y1, y2, y3⟩ := HB.out.kp (Kp.trans hk3 hk37)
      obtain ⟨q0, q1, q2, q3⟩ := HQ.out.kp hk37
      go_wp2_with fail
      clear y0 y1 y2 y3 q0 q1 q2 q3
      (with_reducible refine (HK.out w7 hk37).mono ?_)
      rintro e w8 ⟨rfl, hk8⟩
      go_wp2_with fail
      (with_reducible refine (HA.out w8 (Kp.trans (Kp.trans hk3 hk37) hk8)).mono ?_)
      rintro e w9 ⟨rfl, hk9⟩
      go_wp2_with fail
      go_ret
      exact ⟨rfl, Kp.trans Hkb.out (Kp.trans (Kp.trans (Kp.trans hk3 hk37) hk8) hk9)⟩
    · rw [if_neg hc] at h
      have HC := Lib.hid (fun w' (k : Kp wb w') => code_any w' E (HI.out.1.keep k) _ hcm)
      rw [errV_ne E hc] at h HC
      subst h
      go_wp2_with fail
      (with_reducible refine (HR.out w4 hb4).mono ?_)
      rintro e w5 ⟨hk5, h⟩
      rw [if_neg hc] at h
      subst h
      have hb5 := Kp.trans hb4 hk5
      have hk35 := Kp.trans hk4 hk5
      generalize checkL b0 b1 ls = cc at *
      have HM := Lib.hid (moves2_any w5 none none 0 0 0 0 [] [] ⟨rfl, Nat.zero_le _, fun j u hu => by simp at hu⟩ ⟨rfl, Nat.zero_le _, fun j u hu => by simp at hu⟩)
      clear hc hcm y0 y1 y2 y3
      go_wp2_with fail
      (with_reducible refine (HC.out w5 hb5).mono ?_)
      rintro e w6 ⟨rfl, rfl⟩
      go_wp2_with fail
      (with_reducible refine HM.out.mono ?_)
      rintro e w7 ⟨rfl, hk7⟩
      rw [beq_self_eq_true]
      have hk37 := Kp.trans hk35 hk7
      obtain ⟨y0, y1, y2, y3⟩ := HB.out.kp (Kp.trans hk3 hk37)
      obtain ⟨q0, q1, q2, q3⟩ := HQ.out.kp hk37
      go_wp2_with fail
      clear y0 y1 y2 y3 q0 q1 q2 q3
      (with_reducible refine (HK.out w7 hk37).mono ?_)
      rintro e w8 ⟨rfl, hk8⟩
      go_wp2_with fail
      (with_reducible refine (HA.out w8 (Kp.trans (Kp.trans hk3 hk37) hk8)).mono ?_)
      rintro e w9 ⟨rfl, hk9⟩
      go_wp2_with fail
      go_ret
      exact ⟨rfl, Kp.trans Hkb.out (Kp.trans (Kp.trans (Kp.trans hk3 hk37) hk8) hk9)⟩
end Go.Proofs.YtpemfmjplejdiaaDoor
