/- PlanUnlike: the walk. Conditions: the two patterns lie there (Is, Lns), the four errors too (Errs). -/
import Derived.Test.YtpemfmjplejdiaaDoorMirrors
import Derived.Test.YtpemfmjplejdiaaDoorRollLaw
namespace Go.Proofs.YtpemfmjplejdiaaDoor
open Go.RowKit

theorem unroll_any (ini : Bool) (w : World) (E : Nat → Addr) (hE : Errs w E) (nm : ByteArray) (a0 a1 al : Option Addr) (n0 c0 n1 c1 nl cl : Nat) (b0 b1 : List Int) (ls : List Ln) (h0 : Is w a0 n0 b0) (h1 : Is w a1 n1 b1) (hl : Lns w al nl ls) :
    Calls Tryd.prog 12 #[.agg #[.string nm, .slice a0 n0 c0, .slice a1 n1 c1, .slice al nl cl], .bool ini] w (UnrollPost w E ini b0 b1 ls) := by
  cases ini with
  | true => exact unroll_true w E hE nm a0 a1 al n0 c0 n1 c1 nl cl b0 b1 ls h0 h1 hl
  | false => exact unroll_false w E hE nm a0 a1 al n0 c0 n1 c1 nl cl b0 b1 ls h0 h1 hl

/-- A pattern in a variable. -/
def Box (w : World) (b : Nat) (nm : ByteArray) (a0 a1 al : Option Addr) (n0 c0 n1 c1 nl cl : Nat) : Prop :=
  w.cell? ⟨b, 0, none⟩ = some (.string nm) ∧ w.cell? ⟨b, 1, none⟩ = some (.slice a0 n0 c0) ∧ w.cell? ⟨b, 2, none⟩ = some (.slice a1 n1 c1) ∧ w.cell? ⟨b, 3, none⟩ = some (.slice al nl cl)
theorem Box.new (w : World) (nm : ByteArray) (a0 a1 al : Option Addr) (n0 c0 n1 c1 nl cl : Nat) : Box (w.alloc (.cells #[.string nm, .slice a0 n0 c0, .slice a1 n1 c1, .slice al nl cl] 26)) w.heap.size nm a0 a1 al n0 c0 n1 c1 nl cl := by
  refine ⟨?_, ?_, ?_, ?_⟩ <;> (rw [World.cell?_alloc_at _ _ _ _ rfl]; rfl)
theorem Box.keep {w w' : World} {b : Nat} {nm : ByteArray} {a0 a1 al : Option Addr} {n0 c0 n1 c1 nl cl : Nat} (h : Box w b nm a0 a1 al n0 c0 n1 c1 nl cl) (k : Kp w w') : Box w' b nm a0 a1 al n0 c0 n1 c1 nl cl := ⟨k.cell h.1, k.cell h.2.1, k.cell h.2.2.1, k.cell h.2.2.2⟩

set_option maxRecDepth 100000 in
set_option maxHeartbeats 8000000 in
theorem unlike_any (w : World) (E : Nat → Addr) (hE : Errs w E) (ini : Bool) (nm : ByteArray) (a0 a1 al : Option Addr) (n0 c0 n1 c1 nl cl : Nat) (b0 b1 : List Int) (ls : List Ln) (hnm : nm.size ≤ 9223372036854775807) (h0 : Is w a0 n0 b0) (h1 : Is w a1 n1 b1) (hl : Lns w al nl ls)
    (nm' : ByteArray) (e0 e1 el : Option Addr) (m0 f0 m1 f1 ml fl : Nat) (d0 d1 : List Int) (ms : List Ln) (hnm' : nm'.size ≤ 9223372036854775807) (g0 : Is w e0 m0 d0) (g1 : Is w e1 m1 d1) (gl : Lns w el ml ms) :
    Calls Tryd.prog 5 #[.agg #[.string nm, .slice a0 n0 c0, .slice a1 n1 c1, .slice al nl cl], .agg #[.string nm', .slice e0 m0 f0, .slice e1 m1 f1, .slice el ml fl], .bool ini] w fun e w' => e = .returned (.bool true) ∧ Kp w w' := by
  have hk1 := Kp.new w (.cells #[.string nm, .slice a0 n0 c0, .slice a1 n1 c1, .slice al nl cl] 26)
  have hB1 := Box.new w nm a0 a1 al n0 c0 n1 c1 nl cl
  have hk2 := Kp.new (w.alloc (.cells #[.string nm, .slice a0 n0 c0, .slice a1 n1 c1, .slice al nl cl] 26)) (.cells #[.string nm', .slice e0 m0 f0, .slice e1 m1 f1, .slice el ml fl] 26)
  have hB2 := Box.new (w.alloc (.cells #[.string nm, .slice a0 n0 c0, .slice a1 n1 c1, .slice al nl cl] 26)) nm' e0 e1 el m0 f0 m1 f1 ml fl
  replace hB1 := hB1.keep hk2
  have hsz : (w.alloc (.cells #[.string nm, .slice a0 n0 c0, .slice a1 n1 c1, .slice al nl cl] 26)).heap.size = w.heap.size + 1 := by simp
  rw [hsz] at hB2
  obtain ⟨wb, hwb⟩ : ∃ wb, wb = (w.alloc (.cells #[.string nm, .slice a0 n0 c0, .slice a1 n1 c1, .slice al nl cl] 26)).alloc (.cells #[.string nm', .slice e0 m0 f0, .slice e1 m1 f1, .slice el ml fl] 26) := ⟨_, rfl⟩
  rw [← hwb] at hB1 hB2 hk2
  have hkb := Kp.trans hk1 hk2
  obtain ⟨bx, hbx⟩ : ∃ bx, bx = w.heap.size := ⟨_, rfl⟩
  rw [← hbx] at hB1 hB2
  have hEb := hkb.errs hE
  replace h0 := hkb.is h0
  replace h1 := hkb.is h1
  replace hl := hkb.lns hl
  replace g0 := hkb.is g0
  replace g1 := hkb.is g1
  replace gl := hkb.lns gl
  have HL := Lib.hid (fun w' (k : Kp wb w') => large_any w' nm a0 a1 al n0 c0 n1 c1 nl cl b0 b1 ls hnm (k.is h0) (k.is h1) (k.lns hl))
  have HL' := Lib.hid (fun w' (k : Kp wb w') => large_any w' nm' e0 e1 el m0 f0 m1 f1 ml fl d0 d1 ms hnm' (k.is g0) (k.is g1) (k.lns gl))
  have HA := Lib.hid (fun w' (k : Kp wb w') => awake_any w' E (k.errs hEb))
  have HU := Lib.hid (fun w' (k : Kp wb w') => unroll_any ini w' E (k.errs hEb) nm a0 a1 al n0 c0 n1 c1 nl cl b0 b1 ls (k.is h0) (k.is h1) (k.lns hl))
  have HU' := Lib.hid (fun w' (k : Kp wb w') => unroll_any ini w' E (k.errs hEb) nm' e0 e1 el m0 f0 m1 f1 ml fl d0 d1 ms (k.is g0) (k.is g1) (k.lns gl))
  have HS := Lib.hid (fun w' (k : Kp wb w') => same_any w' nm nm' a0 a1 al e0 e1 el n0 c0 n1 c1 nl cl m0 f0 m1 f1 ml fl b0 b1 ls d0 d1 ms (k.is h0) (k.is h1) (k.lns hl) (k.is g0) (k.is g1) (k.lns gl))
  have Hkb := Lib.hid hkb
  have HB1 := Lib.hid hB1
  have HB2 := Lib.hid hB2
  obtain ⟨q0, q1, q2, q3⟩ := hB1
  clear h0 h1 hl g0 g1 gl hEb hkb hk1 hk2 hB2 hE
  go_enter Tryd.func5, Tryd.ntmps5
  go_upto_region 1 with fail
  rw [← hwb, ← hbx]
  clear hwb hbx hsz
  go_wp2_with fail
  (with_reducible refine (HL.out wb (Kp.refl _)).mono ?_)
  rintro e w1 ⟨bl, rfl, hk1⟩
  clear q0 q1 q2 q3
  cases bl with
  | true =>
    go_wp2_with fail
    (with_reducible refine (HA.out w1 hk1).mono ?_)
    rintro e w2 ⟨rfl, hk2⟩
    go_wp2_with fail
    go_ret
    exact ⟨rfl, Kp.trans Hkb.out (Kp.trans hk1 hk2)⟩
  | false =>
    obtain ⟨p0, p1, p2, p3⟩ := HB2.out.keep hk1
    go_wp2_with fail
    (with_reducible refine (HL'.out w1 hk1).mono ?_)
    rintro e w2 ⟨bl, rfl, hk2⟩
    clear p0 p1 p2 p3
    replace hk2 := Kp.trans hk1 hk2
    cases bl with
    | true =>
      go_wp2_with fail
      (with_reducible refine (HA.out w2 hk2).mono ?_)
      rintro e w3 ⟨rfl, hk3⟩
      go_wp2_with fail
      go_ret
      exact ⟨rfl, Kp.trans Hkb.out (Kp.trans hk2 hk3)⟩
    | false =>
      obtain ⟨q0, q1, q2, q3⟩ := HB1.out.keep hk2
      go_wp2_with fail
      (with_reducible refine (HU.out w2 hk2).mono ?_)
      rintro e w3 ⟨hk3, h⟩
      replace hk3 := Kp.trans hk2 hk3
      clear q0 q1 q2 q3
      obtain ⟨p0, p1, p2, p3⟩ := HB2.out.keep hk3
      by_cases hc : checkL b0 b1 ls = 0
      · rw [if_pos hc] at h
        obtain ⟨ao, n, cap, rfl, hM⟩ := h
        go_wp2_with fail
        (with_reducible refine (HU'.out w3 hk3).mono ?_)
        rintro e w4 ⟨hk34, h⟩
        have hk4 := Kp.trans hk3 hk34
        by_cases hd : checkL d0 d1 ms = 0
        · rw [if_pos hd] at h
          obtain ⟨bo, m, bcap, rfl, hM'⟩ := h
          have hA := (hM.keep hk34).mvs
          have hB := hM'.mvs
          have hinj := unroll_inj ini (checkL_ok hc) (checkL_ok hd)
          obtain ⟨bb, hbb⟩ : ∃ bb, bb = sameL b0 b1 ls d0 d1 ms := ⟨_, rfl⟩
          rw [← hbb] at HS hinj
          have HM := Lib.hid (show ∀ w' (_ : Kp w4 w'), Calls Tryd.prog 15 #[.slice ao n cap, .slice bo m bcap] w' (fun e w'' => e = .returned (.bool bb) ∧ Kp w' w'') from fun w' k => by rw [← hinj]; exact moves2_any w' ao bo n m cap bcap _ _ (k.mvs hA) (k.mvs hB))
          clear hbb hinj hM hM' hA hB p0 p1 p2 p3
          go_upto_region 7 with fail
          have kd : Kp w4 w4.drew := ⟨rfl, rfl, rfl, Nat.le_refl _, fun _ _ => rfl⟩
          obtain ⟨q0, q1, q2, q3⟩ := HB1.out.keep (Kp.trans hk4 kd)
          obtain ⟨p0, p1, p2, p3⟩ := HB2.out.keep (Kp.trans hk4 kd)
          generalize hwd : w4.drew = wd at kd q0 q1 q2 q3 p0 p1 p2 p3
          have Hwd := Lib.hid hwd
          clear hwd
          have hkd := Kp.trans hk4 kd
          rw [← Hwd.out] at kd q0 q1 q2 q3 p0 p1 p2 p3 hkd
          clear Hwd
          go_region_with (first
            | (go_at_call 15; refine (HM.out _ kd).mono ?_; rintro e w5 ⟨rfl, hk5⟩; have q0 := Kp.cell hk5 q0; have q1 := Kp.cell hk5 q1; have q2 := Kp.cell hk5 q2; have q3 := Kp.cell hk5 q3; have p0 := Kp.cell hk5 p0; have p1 := Kp.cell hk5 p1; have p2 := Kp.cell hk5 p2; have p3 := Kp.cell hk5 p3; have hkw5 := Kp.trans hkd hk5)
            | (go_at_call 18; refine (HS.out _ hkw5).mono ?_; rintro e w6 ⟨rfl, hk6⟩; have hkw6 := Kp.trans hkw5 hk6)
            | (go_at_call 10; refine (HA.out _ hkw6).mono ?_; rintro e w7 ⟨rfl, hk7⟩; have hkw7 := Kp.trans hkw6 hk7))
          all_goals
            clear q0 q1 q2 q3 p0 p1 p2 p3
            go_wp2_with fail
            go_ret
            exact ⟨rfl, Kp.trans Hkb.out hkw7⟩
        · rw [if_neg hd, errV_pos E hd] at h
          subst h
          go_wp2_with fail
          (with_reducible refine (HA.out w4 hk4).mono ?_)
          rintro e w5 ⟨rfl, hk5⟩
          go_wp2_with fail
          go_ret
          exact ⟨rfl, Kp.trans Hkb.out (Kp.trans hk4 hk5)⟩
      · rw [if_neg hc, errV_pos E hc] at h
        subst h
        go_wp2_with fail
        (with_reducible refine (HU'.out w3 hk3).mono ?_)
        rintro e w4 ⟨hk34, h⟩
        have hk4 := Kp.trans hk3 hk34
        by_cases hd : checkL d0 d1 ms = 0
        · rw [if_pos hd] at h
          obtain ⟨bo, m, bcap, rfl, hM'⟩ := h
          go_wp2_with fail
          (with_reducible refine (HA.out w4 hk4).mono ?_)
          rintro e w5 ⟨rfl, hk5⟩
          go_wp2_with fail
          go_ret
          exact ⟨rfl, Kp.trans Hkb.out (Kp.trans hk4 hk5)⟩
        · rw [if_neg hd, errV_pos E hd] at h
          subst h
          go_wp2_with fail
          (with_reducible refine (HA.out w4 hk4).mono ?_)
          rintro e w5 ⟨rfl, hk5⟩
          go_wp2_with fail
          go_ret
          exact ⟨rfl, Kp.trans Hkb.out (Kp.trans hk4 hk5)⟩
end Go.Proofs.YtpemfmjplejdiaaDoor
