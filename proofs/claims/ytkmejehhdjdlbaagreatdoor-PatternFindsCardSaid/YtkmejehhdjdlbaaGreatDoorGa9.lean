/- Parts of the walks and plain laws, merged: LawCk, LawFi, LawPr, PrsP. Each theorem bears its own conditions; no other. -/
import Derived.Test.YtkmejehhdjdlbaaGreatDoorKn
import Derived.Test.YtkmejehhdjdlbaaGreatDoorGa6
import Derived.Test.YtkmejehhdjdlbaaGreatDoorRefCheck
import Derived.Test.YtkmejehhdjdlbaaGreatDoorGa1
import Derived.Test.YtkmejehhdjdlbaaGreatDoorGa8
import Derived.Test.YtkmejehhdjdlbaaGreatDoorGa7
namespace Go.Proofs.YtkmejehhdjdlbaaGreatDoor
open Go.RowKit

theorem offL_code (S : Nat → Bool) (f t : Int) (b : Bool) : offL S f t b = 0 ∨ offL S f t b ∈ codes := by
  unfold offL
  repeat' split
  all_goals simp [codes]
theorem runToks_code : ∀ (ts : List Int) (S : Nat → Bool) (f : Int), (runToks S f ts).1 = 0 ∨ (runToks S f ts).1 ∈ codes
  | [], _, _ => .inl rfl
  | t :: r, S, f => by
    unfold runToks
    split
    · exact runToks_code r _ f
    · exact offL_code S f t _
theorem runLs_code : ∀ (ls : List Ln) (S : Nat → Bool), (runLs S ls).1 = 0 ∨ (runLs S ls).1 ∈ codes
  | [], _ => .inl rfl
  | l :: r, S => by
    unfold runLs
    split
    · exact runLs_code r _
    · exact runToks_code l.2 S l.1
theorem checkL_code (b0 b1 : List Int) (ls : List Ln) : checkL b0 b1 ls = 0 ∨ checkL b0 b1 ls ∈ codes := by
  unfold checkL
  split
  · split
    · unfold endL
      split <;> simp [codes]
    · exact runLs_code ls _
  · simp [codes]
set_option maxRecDepth 100000 in
set_option maxHeartbeats 8000000 in
theorem checks_true (w : World) (E : Nat → Addr) (m : Int) (hE : Env w E m) (nm : ByteArray) (a0 a1 al : Option Addr) (n0 c0 n1 c1 nl cl : Nat) (b0 b1 : List Int) (ls : List Ln) (hnm : nm.size ≤ 9223372036854775807) (hP : PatI w a0 a1 al n0 n1 nl b0 b1 ls) :
    Calls Tryz.prog 4 #[patV nm a0 a1 al n0 c0 n1 c1 nl cl] w fun e w' => e = .returned (.bool true) ∧ Kp w w' := by
  have HE := Lib.hid hE
  have HPI := Lib.hid hP
  have hk1 := Kp.new w (.cells #[.string nm, .slice a0 n0 c0, .slice a1 n1 c1, .slice al nl cl] 26)
  have hF1 := Four.new w (.string nm) (.slice a0 n0 c0) (.slice a1 n1 c1) (.slice al nl cl) 26
  have HMu := Lib.hid (much_any _ nm a0 a1 al n0 c0 n1 c1 nl cl b0 b1 ls hnm (hP.kp hk1))
  have HF1 := Lib.hid hF1
  have Hk1 := Lib.hid hk1
  obtain ⟨y0, y1, y2, y3, z0, z1, z2, z3⟩ := hF1
  clear hE hP hk1 z0 z1 z2 z3
  go_enter Tryz.func4, Tryz.ntmps4
  go_upto_region 1 with fail
  obtain ⟨bx, hbx⟩ : ∃ bx, bx = w.heap.size := ⟨_, rfl⟩
  rw [← hbx] at HF1 y0 y1 y2 y3 ⊢
  generalize w.alloc (.cells #[.string nm, .slice a0 n0 c0, .slice a1 n1 c1, .slice al nl cl] 26) = w1 at *
  clear hbx
  go_wp2_with fail
  (with_reducible refine HMu.out.mono ?_)
  rintro e w2 ⟨b, rfl, hk2, hb⟩
  have Hk2 := Lib.hid (Kp.trans Hk1.out hk2)
  have HF2 := Lib.hid (HF1.out.kp hk2)
  clear y0 y1 y2 y3 hk2
  cases b with
  | true =>
    have HKn := Lib.hid (law_known w2 E m (HE.out.keep Hk2.out))
    clear hb
    go_wp2_with fail
    (with_reducible refine HKn.out.mono ?_)
    rintro e w3 ⟨rfl, hk3⟩
    have Hk3 := Lib.hid (Kp.trans Hk2.out hk3)
    clear hk3
    go_wp2_with fail
    go_ret
    exact ⟨rfl, Hk3.out⟩
  | false =>
    have Hs := Lib.hid (hb rfl)
    have HRo := Lib.hid (roomy_any w2 nm a0 a1 al n0 c0 n1 c1 nl cl b0 b1 ls (HPI.out.kp Hk2.out) Hs.out)
    obtain ⟨y0, y1, y2, y3, _, _, _, _⟩ := HF2.out
    clear hb
    go_wp2_with fail
    (with_reducible refine HRo.out.mono ?_)
    rintro e w3 ⟨q0, q1, ql, rfl, hk3, hM⟩
    have hk4 := Kp.trans hk3 (Kp.new w3 (.cells #[.string nm, .slice (some ⟨q0, 0, none⟩) n0 (n0 + 6), .slice (some ⟨q1, 0, none⟩) n1 (n1 + 6), .slice (some ⟨ql, 0, none⟩) nl (nl + 6)] 26))
    have hF3 := Four.new w3 (.string nm) (.slice (some ⟨q0, 0, none⟩) n0 (n0 + 6)) (.slice (some ⟨q1, 0, none⟩) n1 (n1 + 6)) (.slice (some ⟨ql, 0, none⟩) nl (nl + 6)) 26
    have hM4 := hM.kp (Kp.new w3 (.cells #[.string nm, .slice (some ⟨q0, 0, none⟩) n0 (n0 + 6), .slice (some ⟨q1, 0, none⟩) n1 (n1 + 6), .slice (some ⟨ql, 0, none⟩) nl (nl + 6)] 26))
    clear y0 y1 y2 y3 hM hk3
    go_upto_region 4 with fail
    generalize w3.alloc (.cells #[.string nm, .slice (some ⟨q0, 0, none⟩) n0 (n0 + 6), .slice (some ⟨q1, 0, none⟩) n1 (n1 + 6), .slice (some ⟨ql, 0, none⟩) nl (nl + 6)] 26) = w4 at *
    generalize w3.heap.size = p3 at *
    refine anyH_start (fun v => Four v bx (.string nm) (.slice a0 n0 c0) (.slice a1 n1 c1) (.slice al nl cl) ∧ Four v p3 (.string nm) (.slice (some ⟨q0, 0, none⟩) n0 (n0 + 6)) (.slice (some ⟨q1, 0, none⟩) n1 (n1 + 6)) (.slice (some ⟨ql, 0, none⟩) nl (nl + 6))) (by kernel_rfl) ?_
    obtain ⟨wd, hwd⟩ : ∃ wd, wd = w4.drew := ⟨_, rfl⟩
    have hkd : Kp w4 wd := hwd ▸ (⟨rfl, rfl, rfl, Nat.le_refl _, fun _ _ => rfl⟩ : Kp w4 w4.drew)
    rw [← hwd]
    have hq := And.intro (HF2.out.kp (Kp.trans hk4 hkd)) (hF3.kp hkd)
    have HM := Lib.hid (hM4.kp hkd)
    have HK := Lib.hid (Kp.trans Hk2.out (Kp.trans hk4 hkd))
    have HD := Lib.hid (Kp.refl wd)
    clear hwd hk4 hkd hF3 hM4
    refine anyH_load 3 12 (patV nm a0 a1 al n0 c0 n1 c1 nl cl) rfl rfl (by kernel_rfl) hq (fun w h => exec_load26 h.1 rfl rfl) ?_
    simp only [Act.put, List.setIfInBounds_toArray, List.set_cons_zero, List.set_cons_succ]
    refine anyH_load 0 9 (patV nm (some ⟨q0, 0, none⟩) (some ⟨q1, 0, none⟩) (some ⟨ql, 0, none⟩) n0 (n0 + 6) n1 (n1 + 6) nl (nl + 6)) rfl rfl (by kernel_rfl) hq (fun w h => exec_load26 h.2 rfl rfl) ?_
    simp only [Act.put, List.setIfInBounds_toArray, List.set_cons_zero, List.set_cons_succ]
    refine anyH_one 1 (by kernel_rfl) ?_
    simp only [opsAt, List.getElem?_toArray, List.getElem?_cons_zero, List.getElem?_cons_succ]
    have HC := Lib.hid (check_any _ E (HE.out.keep HK.out).errs nm _ _ _ n0 (n0 + 6) n1 (n1 + 6) nl (nl + 6) b0 b1 ls ((HM.out.kp HD.out).pat Hs.out.ts Hs.out.nl).i0 ((HM.out.kp HD.out).pat Hs.out.ts Hs.out.nl).i1 ((HM.out.kp HD.out).pat Hs.out.ts Hs.out.nl).il)
    go_wp2_with fail
    (with_reducible refine HC.out.mono ?_)
    rintro e v1 ⟨rfl, hk⟩
    replace HK := Lib.hid (Kp.trans HK.out hk)
    replace HD := Lib.hid (Kp.trans HD.out hk)
    replace hq := And.intro (hq.1.kp hk) (hq.2.kp hk)
    clear hk
    clear HC
    go_wp2_with fail
    refine anyH_one 2 (by kernel_rfl) ?_
    simp only [opsAt, List.getElem?_toArray, List.getElem?_cons_zero, List.getElem?_cons_succ]
    have HC := Lib.hid (code_any _ E m (HE.out.keep HK.out) (checkL b0 b1 ls) (checkL_code b0 b1 ls))
    go_wp2_with fail
    (with_reducible refine HC.out.mono ?_)
    rintro e v2 ⟨rfl, rfl⟩
    clear HC
    go_wp2_with fail
    refine anyH_one 4 (by kernel_rfl) ?_
    simp only [opsAt, List.getElem?_toArray, List.getElem?_cons_zero, List.getElem?_cons_succ]
    have HC := Lib.hid (refCheck_any _ nm a0 a1 al n0 c0 n1 c1 nl cl b0 b1 ls (HPI.out.kp HK.out).i0 (HPI.out.kp HK.out).i1 (HPI.out.kp HK.out).il)
    go_wp2_with fail
    (with_reducible refine HC.out.mono ?_)
    rintro e v3 ⟨rfl, hk⟩
    replace HK := Lib.hid (Kp.trans HK.out hk)
    replace HD := Lib.hid (Kp.trans HD.out hk)
    replace hq := And.intro (hq.1.kp hk) (hq.2.kp hk)
    clear hk
    clear HC
    go_wp2_with fail
    rw [checkR_eq]
    refine anyH_take [5, 6] (by kernel_rfl) hq ?_
    simp only [opsAt, List.getElem?_toArray, List.getElem?_cons_zero, List.getElem?_cons_succ]
    repeat (go_big_quiet_step (fail))
    refine wpQuiet_nil ?_
    refine anyH_loadG 7 16 (patV nm (some ⟨q0, 0, none⟩) (some ⟨q1, 0, none⟩) (some ⟨ql, 0, none⟩) n0 (n0 + 6) n1 (n1 + 6) nl (nl + 6)) rfl rfl (by kernel_rfl) (by kernel_rfl) hq (fun w h => exec_load26 h.2 rfl rfl) ?_
    simp only [Act.put, List.setIfInBounds_toArray, List.set_cons_zero, List.set_cons_succ]
    refine anyH_loadG 8 17 (patV nm a0 a1 al n0 c0 n1 c1 nl cl) rfl rfl (by kernel_rfl) (by kernel_rfl) hq (fun w h => exec_load26 h.1 rfl rfl) ?_
    simp only [Act.put, List.setIfInBounds_toArray, List.set_cons_zero, List.set_cons_succ]
    refine anyH_one 9 (by kernel_rfl) ?_
    simp only [opsAt, List.getElem?_toArray, List.getElem?_cons_zero, List.getElem?_cons_succ]
    have HC := Lib.hid (left_yes _ nm q0 q1 ql a0 a1 al n0 c0 n1 c1 nl cl b0 b1 ls (HM.out.kp HD.out) (HPI.out.kp HK.out) Hs.out)
    go_wp2_with fail
    (with_reducible refine HC.out.mono ?_)
    rintro e v4 ⟨rfl, hk⟩
    replace HK := Lib.hid (Kp.trans HK.out hk)
    replace HD := Lib.hid (Kp.trans HD.out hk)
    replace hq := And.intro (hq.1.kp hk) (hq.2.kp hk)
    clear hk
    clear HC
    go_wp2_with fail
    refine anyH_take [10, 11] (by kernel_rfl) hq ?_
    simp only [opsAt, List.getElem?_toArray, List.getElem?_cons_zero, List.getElem?_cons_succ]
    repeat (go_big_quiet_step (fail))
    refine wpQuiet_nil ?_
    refine anyH_loadG 15 24 (patV nm a0 a1 al n0 c0 n1 c1 nl cl) rfl rfl (by kernel_rfl) (by kernel_rfl) hq (fun w h => exec_load26 h.1 rfl rfl) ?_
    simp only [Act.put, List.setIfInBounds_toArray, List.set_cons_zero, List.set_cons_succ]
    refine anyH_loadG 12 21 (patV nm (some ⟨q0, 0, none⟩) (some ⟨q1, 0, none⟩) (some ⟨ql, 0, none⟩) n0 (n0 + 6) n1 (n1 + 6) nl (nl + 6)) rfl rfl (by kernel_rfl) (by kernel_rfl) hq (fun w h => exec_load26 h.2 rfl rfl) ?_
    simp only [Act.put, List.setIfInBounds_toArray, List.set_cons_zero, List.set_cons_succ]
    refine anyH_one 13 (by kernel_rfl) ?_
    simp only [opsAt, List.getElem?_toArray, List.getElem?_cons_zero, List.getElem?_cons_succ]
    have HC := Lib.hid (check_any _ E (HE.out.keep HK.out).errs nm _ _ _ n0 (n0 + 6) n1 (n1 + 6) nl (nl + 6) b0 b1 ls ((HM.out.kp HD.out).pat Hs.out.ts Hs.out.nl).i0 ((HM.out.kp HD.out).pat Hs.out.ts Hs.out.nl).i1 ((HM.out.kp HD.out).pat Hs.out.ts Hs.out.nl).il)
    go_wp2_with fail
    (with_reducible refine HC.out.mono ?_)
    rintro e v5 ⟨rfl, hk⟩
    replace HK := Lib.hid (Kp.trans HK.out hk)
    replace HD := Lib.hid (Kp.trans HD.out hk)
    replace hq := And.intro (hq.1.kp hk) (hq.2.kp hk)
    clear hk
    clear HC
    go_wp2_with fail
    refine anyH_one 14 (by kernel_rfl) ?_
    simp only [opsAt, List.getElem?_toArray, List.getElem?_cons_zero, List.getElem?_cons_succ]
    have HC := Lib.hid (code_any _ E m (HE.out.keep HK.out) (checkL b0 b1 ls) (checkL_code b0 b1 ls))
    go_wp2_with fail
    (with_reducible refine HC.out.mono ?_)
    rintro e v6 ⟨rfl, rfl⟩
    clear HC
    go_wp2_with fail
    refine anyH_one 16 (by kernel_rfl) ?_
    simp only [opsAt, List.getElem?_toArray, List.getElem?_cons_zero, List.getElem?_cons_succ]
    have HC := Lib.hid (refCheck_any _ nm a0 a1 al n0 c0 n1 c1 nl cl b0 b1 ls (HPI.out.kp HK.out).i0 (HPI.out.kp HK.out).i1 (HPI.out.kp HK.out).il)
    go_wp2_with fail
    (with_reducible refine HC.out.mono ?_)
    rintro e v7 ⟨rfl, hk⟩
    replace HK := Lib.hid (Kp.trans HK.out hk)
    replace HD := Lib.hid (Kp.trans HD.out hk)
    replace hq := And.intro (hq.1.kp hk) (hq.2.kp hk)
    clear hk
    clear HC
    go_wp2_with fail
    rw [checkR_eq]
    refine anyH_take [17, 18, 19] (by kernel_rfl) hq ?_
    simp only [opsAt, List.getElem?_toArray, List.getElem?_cons_zero, List.getElem?_cons_succ]
    repeat (go_big_quiet_step (fail))
    refine wpQuiet_nil ?_
    refine anyH_one 20 (by kernel_rfl) ?_
    simp only [opsAt, List.getElem?_toArray, List.getElem?_cons_zero, List.getElem?_cons_succ]
    have HC := Lib.hid (law_known _ E m (HE.out.keep HK.out))
    go_wp2_with fail
    (with_reducible refine HC.out.mono ?_)
    rintro e v8 ⟨rfl, hk⟩
    replace HK := Lib.hid (Kp.trans HK.out hk)
    replace HD := Lib.hid (Kp.trans HD.out hk)
    replace hq := And.intro (hq.1.kp hk) (hq.2.kp hk)
    clear hk
    clear HC
    go_wp2_with fail
    refine anyH_take [21] (by kernel_rfl) hq ?_
    simp only [opsAt, List.getElem?_toArray, List.getElem?_cons_zero, List.getElem?_cons_succ]
    repeat (go_big_quiet_step (fail))
    refine wpQuiet_nil ?_
    refine anyH_one 22 (by kernel_rfl) ?_
    simp only [opsAt, List.getElem?_toArray, List.getElem?_cons_zero, List.getElem?_cons_succ]
    go_wp2_with fail
    refine anyH_end (by kernel_rfl) ?_
    go_wp2_with fail
    go_ret
    exact ⟨rfl, HK.out⟩
end Go.Proofs.YtkmejehhdjdlbaaGreatDoor

namespace Go.Proofs.YtkmejehhdjdlbaaGreatDoor
open Go.RowKit

set_option maxRecDepth 100000 in
set_option maxHeartbeats 8000000 in
theorem finds_true (w : World) (E : Nat → Addr) (m : Int) (hE : Env w E m) (s : ByteArray) (hs : s.size ≤ maxLen) :
    Calls Tryz.prog 7 #[.string s] w fun e w' => e = .returned (.bool true) ∧ Kp w w' := by
  have HE := Lib.hid hE
  have HF := Lib.hid (find_all w E m hE s hs)
  have HR := Lib.hid (fun v => rfind_all v s hs)
  generalize fnd s.data.toList = x at HF HR
  obtain ⟨nm, b0, b1, ls, has⟩ := x
  simp only at HF HR
  clear hE
  go_enter Tryz.func7, Tryz.ntmps7
  go_wp2_with fail
  (with_reducible refine HF.out.mono ?_)
  rintro e w1 ⟨hk1, t0, t1, tl, rfl, hP1⟩
  unfold tvv
  have hk2 := Kp.new w1 (.cells #[.string nm, .slice t0.ao t0.n t0.c, .slice t1.ao t1.n t1.c, .slice tl.ao tl.n tl.c] 26)
  have HF1 := Lib.hid (Four.new w1 (.string nm) (.slice t0.ao t0.n t0.c) (.slice t1.ao t1.n t1.c) (.slice tl.ao tl.n tl.c) 26)
  have HP1 := Lib.hid (hP1.kp hk2)
  have Hk2 := Lib.hid (Kp.trans hk1 hk2)
  clear hk1 hP1 hk2
  go_upto_region 2 with fail
  generalize w1.alloc (.cells #[.string nm, .slice t0.ao t0.n t0.c, .slice t1.ao t1.n t1.c, .slice tl.ao tl.n tl.c] 26) = w2 at *
  generalize w1.heap.size = p1 at *
  have HC := Lib.hid (HR.out w2)
  go_wp2_with fail
  (with_reducible refine HC.out.mono ?_)
  rintro e w3 ⟨hk3, u0, u1, ul, rfl, hP3⟩
  unfold tvv
  have hk4 := Kp.new w3 (.cells #[.string nm, .slice u0.ao u0.n u0.c, .slice u1.ao u1.n u1.c, .slice ul.ao ul.n ul.c] 26)
  have hF3 := Four.new w3 (.string nm) (.slice u0.ao u0.n u0.c) (.slice u1.ao u1.n u1.c) (.slice ul.ao ul.n ul.c) 26
  have HP3 := Lib.hid (hP3.kp hk4)
  have hk34 := Kp.trans hk3 hk4
  clear hk3 hP3 hk4 HC
  go_upto_region 3 with fail
  generalize w3.alloc (.cells #[.string nm, .slice u0.ao u0.n u0.c, .slice u1.ao u1.n u1.c, .slice ul.ao ul.n ul.c] 26) = w4 at *
  generalize w3.heap.size = p3 at *
  have hF1 := HF1.out.kp hk34
  have HPA := Lib.hid (HP1.out.kp hk34)
  have HK := Lib.hid (Kp.trans Hk2.out hk34)
  clear HF1 HP1 hk34
  obtain ⟨x0, x1, x2, x3, _, _, _, _⟩ := hF1
  obtain ⟨y0, y1, y2, y3, _, _, _, _⟩ := hF3
  have HS := Lib.hid (same_yes w4 nm t0.ao t1.ao tl.ao u0.ao u1.ao ul.ao t0.n t0.c t1.n t1.c tl.n tl.c u0.n u0.c u1.n u1.c ul.n ul.c b0 b1 ls HPA.out HP3.out)
  cases has <;>
    (go_wp2_with fail
     (with_reducible refine HS.out.mono ?_)
     rintro e w5 ⟨rfl, hk5⟩
     have HN := Lib.hid (law_known w5 E m (HE.out.keep (Kp.trans HK.out hk5)))
     have HK5 := Lib.hid (Kp.trans HK.out hk5)
     clear hk5 x0 x1 x2 x3 y0 y1 y2 y3
     go_wp2_with fail
     (with_reducible refine HN.out.mono ?_)
     rintro e w6 ⟨rfl, hk6⟩
     have HK6 := Lib.hid (Kp.trans HK5.out hk6)
     clear hk6
     go_wp2_with fail
     go_ret
     exact ⟨rfl, HK6.out⟩)
end Go.Proofs.YtkmejehhdjdlbaaGreatDoor

namespace Go.Proofs.YtkmejehhdjdlbaaGreatDoor
open Go.RowKit

theorem prt_code (nm : Q.Bt) (b0 b1 : List Int) (ls : List Ln) : (prt nm b0 b1 ls).2 = 0 ∨ (prt nm b0 b1 ls).2 ∈ codes := by
  unfold prt
  split
  · exact checkL_code b0 b1 ls
  · split
    · simp [codes]
    · split <;> simp [codes]
set_option maxRecDepth 100000 in
set_option maxHeartbeats 8000000 in
theorem prints_true (w : World) (E : Nat → Addr) (m : Int) (hE : Env w E m) (nm : ByteArray) (a0 a1 al : Option Addr) (n0 c0 n1 c1 nl cl : Nat) (b0 b1 : List Int) (ls : List Ln) (hnm : nm.size ≤ 9223372036854775807) (hP : PatI w a0 a1 al n0 n1 nl b0 b1 ls) :
    Calls Tryz.prog 5 #[patV nm a0 a1 al n0 c0 n1 c1 nl cl] w fun e w' => e = .returned (.bool true) ∧ Kp w w' := by
  have HE := Lib.hid hE
  have HPI := Lib.hid hP
  have hk1 := Kp.new w (.cells #[.string nm, .slice a0 n0 c0, .slice a1 n1 c1, .slice al nl cl] 26)
  have hF1 := Four.new w (.string nm) (.slice a0 n0 c0) (.slice a1 n1 c1) (.slice al nl cl) 26
  have HMu := Lib.hid (much_any _ nm a0 a1 al n0 c0 n1 c1 nl cl b0 b1 ls hnm (hP.kp hk1))
  have HF1 := Lib.hid hF1
  have Hk1 := Lib.hid hk1
  obtain ⟨y0, y1, y2, y3, z0, z1, z2, z3⟩ := hF1
  clear hE hP hk1 z0 z1 z2 z3
  go_enter Tryz.func5, Tryz.ntmps5
  go_upto_region 1 with fail
  obtain ⟨bx, hbx⟩ : ∃ bx, bx = w.heap.size := ⟨_, rfl⟩
  rw [← hbx] at HF1 y0 y1 y2 y3 ⊢
  generalize w.alloc (.cells #[.string nm, .slice a0 n0 c0, .slice a1 n1 c1, .slice al nl cl] 26) = w1 at *
  clear hbx
  go_wp2_with fail
  (with_reducible refine HMu.out.mono ?_)
  rintro e w2 ⟨b, rfl, hk2, hb⟩
  have Hk2 := Lib.hid (Kp.trans Hk1.out hk2)
  have HF2 := Lib.hid (HF1.out.kp hk2)
  clear y0 y1 y2 y3 hk2
  cases b with
  | true =>
    have HKn := Lib.hid (law_known w2 E m (HE.out.keep Hk2.out))
    clear hb
    go_wp2_with fail
    (with_reducible refine HKn.out.mono ?_)
    rintro e w3 ⟨rfl, hk3⟩
    have Hk3 := Lib.hid (Kp.trans Hk2.out hk3)
    clear hk3
    go_wp2_with fail
    go_ret
    exact ⟨rfl, Hk3.out⟩
  | false =>
    have Hs := Lib.hid (hb rfl)
    have HRo := Lib.hid (roomy_any w2 nm a0 a1 al n0 c0 n1 c1 nl cl b0 b1 ls (HPI.out.kp Hk2.out) Hs.out)
    obtain ⟨y0, y1, y2, y3, _, _, _, _⟩ := HF2.out
    clear hb
    go_wp2_with fail
    (with_reducible refine HRo.out.mono ?_)
    rintro e w3 ⟨q0, q1, ql, rfl, hk3, hM⟩
    have hk4 := Kp.trans hk3 (Kp.new w3 (.cells #[.string nm, .slice (some ⟨q0, 0, none⟩) n0 (n0 + 6), .slice (some ⟨q1, 0, none⟩) n1 (n1 + 6), .slice (some ⟨ql, 0, none⟩) nl (nl + 6)] 26))
    have hF3 := Four.new w3 (.string nm) (.slice (some ⟨q0, 0, none⟩) n0 (n0 + 6)) (.slice (some ⟨q1, 0, none⟩) n1 (n1 + 6)) (.slice (some ⟨ql, 0, none⟩) nl (nl + 6)) 26
    have hM4 := hM.kp (Kp.new w3 (.cells #[.string nm, .slice (some ⟨q0, 0, none⟩) n0 (n0 + 6), .slice (some ⟨q1, 0, none⟩) n1 (n1 + 6), .slice (some ⟨ql, 0, none⟩) nl (nl + 6)] 26))
    clear y0 y1 y2 y3 hM hk3
    go_upto_region 4 with fail
    generalize w3.alloc (.cells #[.string nm, .slice (some ⟨q0, 0, none⟩) n0 (n0 + 6), .slice (some ⟨q1, 0, none⟩) n1 (n1 + 6), .slice (some ⟨ql, 0, none⟩) nl (nl + 6)] 26) = w4 at *
    generalize w3.heap.size = p3 at *
    have hp4 := hM4.pat Hs.out.ts Hs.out.nl
    have HPr := Lib.hid (print_any w4 E m (HE.out.keep (Kp.trans Hk2.out hk4)) nm _ _ _ n0 (n0 + 6) n1 (n1 + 6) nl (nl + 6) b0 b1 ls hp4 (by have := Hs.out.nm; omega))
    have HRr := Lib.hid (fun v hk => rprint_any v nm a0 a1 al n0 c0 n1 c1 nl cl b0 b1 ls ((HPI.out.kp Hk2.out).kp (w' := v) hk) (by have := Hs.out.nm; omega))
    have hcd := prt_code nm.data.toList b0 b1 ls
    unfold PrintPost at HPr
    unfold RPrintPost at HRr
    generalize prt nm.data.toList b0 b1 ls = r at HPr HRr hcd
    obtain ⟨tx, c⟩ := r
    simp only at HPr HRr hcd
    have Hcd := Lib.hid hcd
    have HM := Lib.hid hM4
    have Hk4 := Lib.hid hk4
    have HF3 := Lib.hid hF3
    obtain ⟨y0, y1, y2, y3, _, _, _, _⟩ := hF3
    clear hcd hM4 hk4 hp4
    go_wp2_with fail
    (with_reducible refine HPr.out.mono ?_)
    rintro e w5 ⟨rfl, hk5⟩
    have Hk5 := Lib.hid hk5
    have HF5 := Lib.hid (HF2.out.kp (Kp.trans Hk4.out hk5))
    have HC := Lib.hid (HRr.out w5 (Kp.trans Hk4.out hk5))
    clear y0 y1 y2 y3 hk5
    obtain ⟨y0, y1, y2, y3, _, _, _, _⟩ := HF5.out
    go_wp2_with fail
    (with_reducible refine HC.out.mono ?_)
    rintro e w6 ⟨rfl, hk6⟩
    have Hk6 := Lib.hid (Kp.trans Hk5.out hk6)
    clear y0 y1 y2 y3 hk6
    have HKw := Lib.hid (Kp.trans Hk2.out (Kp.trans Hk4.out Hk6.out))
    have HCo := Lib.hid (code_any w6 E m (HE.out.keep HKw.out) c Hcd.out)
    have hFa := HF2.out.kp (Kp.trans Hk4.out Hk6.out)
    have hFb := HF3.out.kp Hk6.out
    have HL := Lib.hid (left_yes w6 nm q0 q1 ql a0 a1 al n0 c0 n1 c1 nl cl b0 b1 ls (HM.out.kp Hk6.out) (HPI.out.kp HKw.out) Hs.out)
    obtain ⟨y0, y1, y2, y3, _, _, _, _⟩ := hFa
    obtain ⟨x0, x1, x2, x3, _, _, _, _⟩ := hFb
    go_wp2_with fail
    (with_reducible refine HCo.out.mono ?_)
    rintro e w7 ⟨rfl, rfl⟩
    go_wp2_with fail
    (with_reducible refine HL.out.mono ?_)
    rintro e w8 ⟨rfl, hk8⟩
    have HK8 := Lib.hid (Kp.trans HKw.out hk8)
    have HN := Lib.hid (law_known w8 E m (HE.out.keep HK8.out))
    clear y0 y1 y2 y3 x0 x1 x2 x3 hk8
    go_wp2_with fail
    (with_reducible refine HN.out.mono ?_)
    rintro e w9 ⟨rfl, hk9⟩
    have HK9 := Lib.hid (Kp.trans HK8.out hk9)
    clear hk9
    go_wp2_with fail
    go_ret
    exact ⟨rfl, HK9.out⟩
end Go.Proofs.YtkmejehhdjdlbaaGreatDoor

namespace Go.Proofs.YtkmejehhdjdlbaaGreatDoor
open Go.RowKit

abbrev Prs := ByteArray × List Int × List Int × List Ln × Nat
def badR (c : Nat) : Prs := (⟨#[]⟩, [], [], [], c)
/-- What is read, if it is a pattern. -/
def chk (nm : Q.Bt) (b : (List Int × List Int) × List Ln) : Prs := if checkL b.1.1 b.1.2 b.2 = 0 then (bs nm, b.1.1, b.1.2, b.2, 0) else badR (checkL b.1.1 b.1.2 b.2)
/-- What a text is read as: the name, what is known ahead, the messages, the error's number. -/
def prs (t : Q.Bt) : Prs := if 4096 < t.length then badR 8 else match (Q.readP t).map (fun x => (x.1, ((x.2.b0, x.2.b1), x.2.ls))) with
  | none => badR 8
  | some x => chk x.1 x.2
theorem read_body (t : Q.Bt) : (Q.readP t).map (fun x => (x.1, ((x.2.b0, x.2.b1), x.2.ls))) = match rsR t with
    | none => none
    | some [] => none
    | some (a :: r) => if Lib.hasSuffix a [58] && Q.isName (Lib.trimSuffix a [58]) then (Q.bodyR r).map (fun b => (Lib.trimSuffix a [58], b)) else none := by
  rw [read_rows]
  cases rsR t with
  | none => rfl
  | some l =>
    cases l with
    | nil => rfl
    | cons a r =>
      simp only
      split
      · rw [← Q.body_eq]
        cases Q.foldP Q.rd0 r <;> rfl
      · rfl
theorem prs_long {t : Q.Bt} (h : 4096 < t.length) : prs t = badR 8 := by unfold prs; rw [if_pos h]
theorem prs_rows {t : Q.Bt} (h : t.length ≤ 4096) : prs t = match rsR t with
    | none => badR 8
    | some [] => badR 8
    | some (a :: r) => if Lib.hasSuffix a [58] && Q.isName (Lib.trimSuffix a [58]) then (match Q.bodyR r with
      | none => badR 8
      | some b => chk (Lib.trimSuffix a [58]) b) else badR 8 := by
  unfold prs
  rw [if_neg (by omega), read_body]
  cases rsR t with
  | none => rfl
  | some l =>
    cases l with
    | nil => rfl
    | cons a r =>
      simp only
      by_cases hc : (Lib.hasSuffix a [58] && Q.isName (Lib.trimSuffix a [58])) = true
      · rw [if_pos hc, if_pos hc]
        cases Q.bodyR r <;> rfl
      · rw [if_neg hc, if_neg hc]
/-- Where the row of three dots stands: f is the first message's row. -/
def FromOk (R : List Q.Bt) (f : Nat) : Prop := (f = 1 ∧ Q.restR ∉ R) ∨ (2 ≤ f ∧ R[f - 2]? = some Q.restR ∧ Q.restR ∉ R.take (f - 2))
theorem from_body {R : List Q.Bt} {f : Nat} (h : FromOk R f) : Q.bodyR R = if f = 2 then none else
    match Q.aheadR [] [] (R.take (f - 2)), Q.linesR (R.drop (f - 1)) with
    | some b, some l => some (b, l)
    | _, _ => none := by
  rcases h with ⟨rfl, h⟩ | ⟨h2, h, hn⟩
  · unfold Q.bodyR
    rw [if_neg h, if_neg (by decide)]
    simp only [List.drop_zero, show 1 - 2 = 0 by rfl, List.take_zero, Q.aheadR]
    cases Q.linesR R <;> rfl
  · have hlt := (List.getElem?_eq_some_iff.1 h).1
    have hsp : R = R.take (f - 2) ++ Q.restR :: R.drop (f - 1) := by
      conv => lhs; rw [← List.take_append_drop (f - 2) R]
      congr 1
      rw [List.drop_eq_getElem_cons hlt, (List.getElem?_eq_some_iff.1 h).2, show f - 2 + 1 = f - 1 by omega]
    have hmem : Q.restR ∈ R := List.mem_of_getElem? h
    have hall : ∀ y ∈ R.take (f - 2), (fun x : Q.Bt => x != Q.restR) y = true := fun y hy => by
      rw [bne_iff_ne]
      rintro rfl
      exact hn hy
    have ht := Q.tw_app (fun x : Q.Bt => x != Q.restR) (R.take (f - 2)) Q.restR (R.drop (f - 1)) hall (by simp)
    rw [← hsp] at ht
    unfold Q.bodyR
    rw [if_pos hmem, ht.1, ht.2]
    by_cases hf : f = 2
    · subst hf
      have : R.head? = some Q.restR := by
        rw [List.head?_eq_getElem?]; exact h
      rw [if_pos this, if_pos rfl]
    · rw [if_neg hf, if_neg]
      · rfl
      · intro he
        rw [List.head?_eq_getElem?] at he
        apply hn
        refine List.mem_of_getElem? (i := 0) ?_
        rw [List.getElem?_take, if_pos (by omega)]
        exact he
theorem prs_code (t : Q.Bt) : (prs t).2.2.2.2 = 0 ∨ (prs t).2.2.2.2 ∈ codes := by
  have h8 : (badR 8).2.2.2.2 ∈ codes := by decide
  unfold prs
  split
  · exact .inr h8
  · split
    · exact .inr h8
    · unfold chk
      split
      · exact .inl rfl
      · exact checkL_code _ _ _
/-- The name's row. -/
theorem suf_yes {a : ByteArray} {m : Nat} (h : a.size = m + 1) (hc : a[m] = 58) : Lib.hasSuffix a.data.toList [58] = true ∧ Lib.trimSuffix a.data.toList [58] = (a.extract 0 m).data.toList := by
  have e : (a.extract 0 m).data.toList = a.data.toList.take m := by simp
  have hl : a.data.toList = a.data.toList.take m ++ [58] := by
    conv => lhs; rw [← List.take_append_drop m a.data.toList]
    congr 1
    rw [List.drop_eq_getElem_cons (i := m) (by rw [← Lib.size_eq]; omega), List.drop_eq_nil_of_le (by rw [← Lib.size_eq]; omega)]
    congr 1
  have hs : Lib.hasSuffix a.data.toList [58] = true := by
    unfold Lib.hasSuffix
    rw [List.isSuffixOf_iff_suffix]
    exact ⟨_, hl.symm⟩
  refine ⟨hs, ?_⟩
  rw [e]
  unfold Lib.trimSuffix
  rw [if_pos hs]
  congr 1
  rw [← Lib.size_eq, h]
  rfl
theorem suf_no {a : ByteArray} (h : a.size = 0 ∨ ∃ m, ∃ hm : a.size = m + 1, a[m] ≠ 58) : Lib.hasSuffix a.data.toList [58] = false := by
  cases hq : Lib.hasSuffix a.data.toList [58] with
  | false => rfl
  | true =>
    exfalso
    unfold Lib.hasSuffix at hq
    obtain ⟨r, hr⟩ := List.isSuffixOf_iff_suffix.1 hq
    have hl := congrArg List.length hr
    rw [List.length_append, ← Lib.size_eq] at hl
    simp only [List.length_cons, List.length_nil] at hl
    rcases h with h | ⟨m, hm, hc⟩
    · omega
    · apply hc
      have : a.data.toList[m]? = some 58 := by rw [← hr, List.getElem?_append_right (by omega), show m - r.length = 0 by omega]; rfl
      obtain ⟨hlt, he⟩ := List.getElem?_eq_some_iff.1 this
      rw [Array.getElem_toList] at he
      exact he
end Go.Proofs.YtkmejehhdjdlbaaGreatDoor
