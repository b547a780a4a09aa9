/- PlanRolls: the walk. Conditions: the moves lie there (Mvs), each third number is one of 64 bits; the errors lie there (ErrsX). -/
import Derived.Test.YtpemfmjplejdiaaDoorRefRollT
import Derived.Test.YtpemfmjplejdiaaDoorRefRollF
import Derived.Test.YtpemfmjplejdiaaDoorGa2
import Derived.Test.YtpemfmjplejdiaaDoorGa3
import Derived.Test.YtpemfmjplejdiaaDoorAwake
namespace Go.Proofs.YtpemfmjplejdiaaDoor
open Go.RowKit

/-- The pattern that is answered, and the error's number. -/
def rpL (ini : Bool) (ms : List Mv) : Pt := (rolledL ini ms).getD initP
def rcL (ini : Bool) (ms : List Mv) : Nat := if (rolledL ini ms).isSome then 0 else 9
theorem Is.nil (w : World) : Is w none 0 [] := ⟨rfl, Nat.zero_le _, fun j u h => by simp at h⟩
theorem Lns.nil (w : World) : Lns w none 0 [] := ⟨rfl, Nat.zero_le _, fun j h => by simp at h⟩
theorem PatO.lnsC {w : World} {B : Nat} {t0 t1 tl : Tv} {ts : List Tv} {b0 b1 : List Int} {ls : List Ln} (h : PatO w B t0 t1 tl ts b0 b1 ls) (hc : checkL b0 b1 ls = 0) : Lns w tl.ao tl.n ls := by
  obtain ⟨_, _, h3, h4⟩ := shapedL_len (checkL_ok hc)
  refine h.lns (by omega) (fun l hl => ?_)
  obtain ⟨j, hj, rfl⟩ := List.getElem_of_mem hl
  have := h4 j hj; omega
def ReadPost (w : World) (x : Value) (pt : Pt) (e : Ending) (w' : World) : Prop := Kp w w' ∧ ∃ t0 t1 tl : Tv, e = .returned (.tuple #[.agg #[.string ⟨#[]⟩, .slice t0.ao t0.n t0.c, .slice t1.ao t1.n t1.c, .slice tl.ao tl.n tl.c], x]) ∧ Is w' t0.ao t0.n pt.1.1 ∧ Is w' t1.ao t1.n pt.1.2 ∧ Lns w' tl.ao tl.n pt.2
theorem roll_read (w : World) (E : Nat → Addr) (hE : Errs w E) (ini : Bool) (lo : Option Addr) (n c : Nat) (ms : List Mv) (hms : Mvs w lo n ms) (hn : n ≤ 1000) : Calls Tryd.prog 19 #[.slice lo n c, .bool ini] w (ReadPost w (errV E (rcL ini ms)) (rpL ini ms)) :=
  (roll_any w E hE ini lo n c ms hms hn).mono fun e w' ⟨hk, h⟩ => by
    refine ⟨hk, ?_⟩
    unfold rpL rcL
    cases hr : rolledL ini ms with
    | none =>
      rw [hr] at h
      exact ⟨nilT, nilT, nilT, h, Is.nil _, Is.nil _, Lns.nil _⟩
    | some p =>
      rw [hr] at h
      obtain ⟨t0, t1, tl, ts, he, hp⟩ := h
      exact ⟨t0, t1, tl, he, hp.is0, hp.is1, hp.lnsC (rolledL_some hr).1⟩
theorem refRoll_read (w : World) (ini : Bool) (lo : Option Addr) (n c : Nat) (ms : List Mv) (hms : Mvs w lo n ms) (hn : n ≤ 1000) (hwf : ∀ m ∈ ms, -9223372036854775808 ≤ m.wth ∧ m.wth ≤ 9223372036854775807) : Calls Tryd.prog 20 #[.slice lo n c, .bool ini] w (ReadPost w (iv (rcL ini ms : Nat)) (rpL ini ms)) := by
  have : Calls Tryd.prog 20 #[.slice lo n c, .bool ini] w (RefRollPost w ini ms) := by
    cases ini with
    | true => exact refRoll_true w lo n c ms hms hn hwf
    | false => exact refRoll_false w lo n c ms hms hn hwf
  refine this.mono fun e w' ⟨hk, h⟩ => ?_
  refine ⟨hk, ?_⟩
  unfold rpL rcL
  cases hr : rolledL ini ms with
  | none =>
    rw [hr] at h
    exact ⟨nilT, nilT, nilT, h, Is.nil _, Is.nil _, Lns.nil _⟩
  | some p =>
    rw [hr] at h
    obtain ⟨t0, t1, tl, ts, he, hp⟩ := h
    exact ⟨t0, t1, tl, he, hp.is0, hp.is1, hp.lnsC (rolledL_some hr).1⟩
theorem Mvs.prefix {w : World} {ao : Option Addr} {N n : Nat} {ms r : List Mv} (h : Mvs w ao N (ms ++ r)) (hn : ms.length = n) : Mvs w ao n ms := by
  refine ⟨hn, ?_, fun j u hu => h.2.2 j u ?_⟩
  · have := h.1; have := h.2.1; simp at *; omega
  · rw [List.flatMap_append, List.getElem?_append_left (List.getElem?_eq_some_iff.1 hu).1]; exact hu
theorem sameL_self (b0 b1 : List Int) (ls : List Ln) : sameL b0 b1 ls b0 b1 ls = true := by unfold sameL; simp
set_option maxRecDepth 100000 in
set_option maxHeartbeats 8000000 in
theorem rolls_any (w : World) (E : Nat → Addr) (hE : ErrsX w E) (ini : Bool) (lo : Option Addr) (n c : Nat) (ms : List Mv) (hms : Mvs w lo n ms) (hwf : ∀ m ∈ ms, -9223372036854775808 ≤ m.wth ∧ m.wth ≤ 9223372036854775807) :
    Calls Tryd.prog 6 #[.slice lo n c, .bool ini] w fun e w' => e = .returned (.bool true) ∧ Kp w w' := by
  have HA := Lib.hid (fun w' (k : Kp w w') => awake_any w' E (hE.keep k).errs)
  have hnm := hms.2.1
  unfold maxLen at hnm
  by_cases hn : (1000 : Int) < (n : Int)
  · clear hE
    go_enter Tryd.func6, Tryd.ntmps6
    go_wp2_with fail
    (with_reducible refine (HA.out w (Kp.refl w)).mono ?_)
    rintro e w2 ⟨rfl, hk2⟩
    go_wp2_with fail
    go_ret
    exact ⟨rfl, hk2⟩
  · have hn' : n ≤ 1000 := by omega
    have HR := Lib.hid (fun w' (k : Kp w w') => refRoll_read w' ini lo n c ms (k.mvs hms) hn' hwf)
    have HG := Lib.hid (fun w' (k : Kp w w') (ao : Option Addr) (cap : Nat) (hm : Mvs w' ao n ms) => roll_read w' E (hE.keep k).errs ini ao n cap ms hm hn')
    have HC := Lib.hid (fun w' (k : Kp w w') => code_any w' E (hE.keep k) (rcL ini ms) (by unfold rcL; split <;> simp))
    have HMv := Lib.hid (fun w' (k : Kp w w') (ao : Option Addr) (cap : Nat) (hm : Mvs w' ao n ms) => moves2_any w' ao lo n n cap c ms ms hm (k.mvs hms))
    have Hlen := Lib.hid hms.1
    have hOe : MvO (w.alloc (.cells #[] 42)) w.heap.size (some ⟨w.heap.size, 0, none⟩) 0 0 [] := ⟨Own.empty w w.heap.size 42 3 (Nat.le_refl _), rfl⟩
    have hke := Kp.new w (.cells #[] 42)
    have hme := hke.mvs hms
    clear hE hwf hms
    go_enter Tryd.func6, Tryd.ntmps6
    go_wp2_with (first | (at_builtin; have _t := hme; refine wpList_mvs rfl (.tmp 14) (.tmp 15) rfl rfl hOe rfl ms hme n (by omega) (by omega) hke.size ?_; intro ao1 cap1 w1 ha1; clear hme) | (at_builtin; refine wpList_mv1 rfl (.tmp 16) (.tmp 18) rfl rfl ha1.own ⟨77, 0, 0⟩ rfl rfl (by omega) (Nat.le_trans hke.size ha1.fr.size) ?_; intro ao2 cap2 w2 ha2; have hcap2 := ha2.own.1.cap))
    have hkw2 : Kp w w2 := (((Fr.of_kp hke).step ha1.fr (fun j hj => .inr (by rw [mem_blkL_some] at hj; omega))).step ha2.fr (fun j hj => .inr (ha1.own.lt j hj).1)).kp
    have hM2 := ha2.own.mvs
    rw [List.nil_append] at hM2
    have HM2 := Lib.hid hM2
    have hMp := Mvs.prefix hM2 Hlen.out
    clear hM2 ha1 ha2 hOe hke _t
    (with_reducible refine (HG.out w2 hkw2 ao2 cap2 hMp).mono ?_)
    rintro e w3 ⟨hk3, t0, t1, tl, rfl, r0, r1, rl⟩
    have hk03 := Kp.trans hkw2 hk3
    have hkp := Kp.new w3 (.cells #[.string ⟨#[]⟩, .slice t0.ao t0.n t0.c, .slice t1.ao t1.n t1.c, .slice tl.ao tl.n tl.c] 26)
    have hBp := Bx.new w3 ⟨#[]⟩ t0.ao t1.ao tl.ao t0.n t0.c t1.n t1.c tl.n tl.c
    go_upto_region 5 with fail
    generalize w3.alloc (.cells #[.string ⟨#[]⟩, .slice t0.ao t0.n t0.c, .slice t1.ao t1.n t1.c, .slice tl.ao tl.n tl.c] 26) = w4 at *
    obtain ⟨b6, hb6⟩ : ∃ b6, b6 = w3.heap.size := ⟨_, rfl⟩
    rw [← hb6] at hBp ⊢
    clear hb6
    have hk04 := Kp.trans hk03 hkp
    go_wp2_with fail
    (with_reducible refine (HR.out w4 hk04).mono ?_)
    rintro e w5 ⟨hk5, s0, s1, sl, rfl, u0, u1, ul⟩
    have hkq := Kp.new w5 (.cells #[.string ⟨#[]⟩, .slice s0.ao s0.n s0.c, .slice s1.ao s1.n s1.c, .slice sl.ao sl.n sl.c] 26)
    have hBq := Bx.new w5 ⟨#[]⟩ s0.ao s1.ao sl.ao s0.n s0.c s1.n s1.c sl.n sl.c
    go_upto_region 6 with fail
    generalize w5.alloc (.cells #[.string ⟨#[]⟩, .slice s0.ao s0.n s0.c, .slice s1.ao s1.n s1.c, .slice sl.ao sl.n sl.c] 26) = w6 at *
    obtain ⟨b8, hb8⟩ : ∃ b8, b8 = w5.heap.size := ⟨_, rfl⟩
    rw [← hb8] at hBq ⊢
    clear hb8
    have hk46 := Kp.trans hk5 hkq
    have hk06 := Kp.trans hk04 hk46
    have HS := Lib.hid (same_any w6 ⟨#[]⟩ ⟨#[]⟩ t0.ao t1.ao tl.ao s0.ao s1.ao sl.ao t0.n t0.c t1.n t1.c tl.n tl.c s0.n s0.c s1.n s1.c sl.n sl.c _ _ _ _ _ _ ((Kp.trans hkp hk46).is r0) ((Kp.trans hkp hk46).is r1) ((Kp.trans hkp hk46).lns rl) (hkq.is u0) (hkq.is u1) (hkq.lns ul))
    have hk26 : Kp w2 w6 := Kp.trans hk3 (Kp.trans hkp hk46)
    have hMg := hk26.mvs HM2.out
    have HPg := Lib.hid (Mvs.prefix hMg Hlen.out)
    rw [sameL_self] at HS
    have hBp6 := hBp.kp hk46
    obtain ⟨y0, y1, y2, y3⟩ := hBp6
    obtain ⟨z0, z1, z2, z3⟩ := hBq
    obtain ⟨g, off, rfl, hc77⟩ := hMg.at n (by omega)
    have d77 := (hc77 n (by omega)).1
    have d77' : w6.cell? ⟨g, off + n * 3, none⟩ = some (iv 77) := by
      rw [d77]
      have : (ms ++ [(⟨77, 0, 0⟩ : Mv)])[n]'(by simp [Hlen.out]) = ⟨77, 0, 0⟩ := by simp [← Hlen.out]
      rw [this]
    have hrc := HC.out w6 hk06
    have HRC := Lib.hid hrc
    have hk2 := Lib.hid (And.intro hk06 d77')
    clear r0 r1 rl u0 u1 ul hk5 hkq hkp hBp hk46 hk26 hMg hc77 d77 hrc hMp hkw2 hk3 hk03 hk04 hk06 d77'
    generalize rcL ini ms = rc at *
    go_wp2_with fail
    (with_reducible refine HRC.out.mono ?_)
    rintro e w7 ⟨rfl, rfl⟩
    have hbeq : ((rc : Int) == (rc : Int)) = true := by simp
    go_wp2_with fail
    (with_reducible refine HS.out.mono ?_)
    rintro e w8 ⟨rfl, hk8⟩
    have hk08 := Kp.trans hk2.out.1 hk8
    replace y0 := hk8.cell y0
    have d77 := hk8.cell hk2.out.2
    have HPm := Lib.hid (HMv.out w8 hk08 _ cap2 (hk8.mvs HPg.out))
    have Hk08 := Lib.hid hk08
    clear y1 y2 y3 z0 z1 z2 z3 hk8 hk08 HPg HS HRC
    go_wp2_with fail
    (with_reducible refine HPm.out.mono ?_)
    rintro e w9 ⟨rfl, hk9⟩
    rw [beq_self_eq_true]
    replace d77 := hk9.cell d77
    go_wp2_with fail
    (with_reducible refine (HA.out w9 (Kp.trans Hk08.out hk9)).mono ?_)
    rintro e w10 ⟨rfl, hk10⟩
    go_wp2_with fail
    go_ret
    exact ⟨rfl, Kp.trans (Kp.trans Hk08.out hk9) hk10⟩
end Go.Proofs.YtpemfmjplejdiaaDoor
