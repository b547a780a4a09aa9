/- Parts of the walks and plain laws, merged: LawCk, MdfE. Each theorem bears its own conditions; no other. -/
import Derived.Test.YtkmejehhdjdlbaaGreatDoorKn
import Derived.Test.YtkmejehhdjdlbaaGreatDoorGf6
import Derived.Test.YtkmejehhdjdlbaaGreatDoorRefCheck
import Derived.Test.YtkmejehhdjdlbaaGreatDoorGf1
import Derived.Test.YtkmejehhdjdlbaaGreatDoorGf7
namespace Go.Proofs.YtkmejehhdjdlbaaGreatDoor
open Go.RowKit

theorem offL_code (S : Nat → Bool) (f t : Int) (b : Bool) : offL S f t b = 0 ∨ offL S f t b ∈ codes := by
  unfold offL
  repeat' split
  all_goals simp [codes]
theorem runToks_code : ∀ (ts : List Int) (S : Nat → Bool) (f : Int), (runToks S f ts).1 = 0 ∨ (runToks S f ts).1 ∈ codes
  | [], _, _ => .inl rfl
  | t :: r, S, f => by
    unfold runToks
    split
    · exact runToks_code r _ f
    · exact offL_code S f t _
theorem runLs_code : ∀ (ls : List Ln) (S : Nat → Bool), (runLs S ls).1 = 0 ∨ (runLs S ls).1 ∈ codes
  | [], _ => .inl rfl
  | l :: r, S => by
    unfold runLs
    split
    · exact runLs_code r _
    · exact runToks_code l.2 S l.1
theorem checkL_code (b0 b1 : List Int) (ls : List Ln) : checkL b0 b1 ls = 0 ∨ checkL b0 b1 ls ∈ codes := by
  unfold checkL
  split
  · split
    · unfold endL
      split <;> simp [codes]
    · exact runLs_code ls _
  · simp [codes]
set_option maxRecDepth 100000 in
set_option maxHeartbeats 8000000 in
theorem checks_true (w : World) (E : Nat → Addr) (m : Int) (hE : Env w E m) (nm : ByteArray) (a0 a1 al : Option Addr) (n0 c0 n1 c1 nl cl : Nat) (b0 b1 : List Int) (ls : List Ln) (hnm : nm.size ≤ 9223372036854775807) (hP : PatI w a0 a1 al n0 n1 nl b0 b1 ls) :
    Calls Tryz.prog 4 #[patV nm a0 a1 al n0 c0 n1 c1 nl cl] w fun e w' => e = .returned (.bool true) ∧ Kp w w' := by
  have HE := Lib.hid hE
  have HPI := Lib.hid hP
  have hk1 := Kp.new w (.cells #[.string nm, .slice a0 n0 c0, .slice a1 n1 c1, .slice al nl cl] 26)
  have hF1 := Four.new w (.string nm) (.slice a0 n0 c0) (.slice a1 n1 c1) (.slice al nl cl) 26
  have HMu := Lib.hid (much_any _ nm a0 a1 al n0 c0 n1 c1 nl cl b0 b1 ls hnm (hP.kp hk1))
  have HF1 := Lib.hid hF1
  have Hk1 := Lib.hid hk1
  obtain ⟨y0, y1, y2, y3, z0, z1, z2, z3⟩ := hF1
  clear hE hP hk1 z0 z1 z2 z3
  go_enter Tryz.func4, Tryz.ntmps4
  go_upto_region 1 with fail
  obtain ⟨bx, hbx⟩ : ∃ bx, bx = w.heap.size := ⟨_, rfl⟩
  rw [← hbx] at HF1 y0 y1 y2 y3 ⊢
  generalize w.alloc (.cells #[.string nm, .slice a0 n0 c0, .slice a1 n1 c1, .slice al nl cl] 26) = w1 at *
  clear hbx
  go_wp2_with fail
  (with_reducible refine HMu.out.mono ?_)
  rintro e w2 ⟨b, rfl, hk2, hb⟩
  have Hk2 := Lib.hid (Kp.trans Hk1.out hk2)
  have HF2 := Lib.hid (HF1.out.kp hk2)
  clear y0 y1 y2 y3 hk2
  cases b with
  | true =>
    have HKn := Lib.hid (law_known w2 E m (HE.out.keep Hk2.out))
    clear hb
    go_wp2_with fail
    (with_reducible refine HKn.out.mono ?_)
    rintro e w3 ⟨rfl, hk3⟩
    have Hk3 := Lib.hid (Kp.trans Hk2.out hk3)
    clear hk3
    go_wp2_with fail
    go_ret
    exact ⟨rfl, Hk3.out⟩
  | false =>
    have Hs := Lib.hid (hb rfl)
    have HRo := Lib.hid (roomy_any w2 nm a0 a1 al n0 c0 n1 c1 nl cl b0 b1 ls (HPI.out.kp Hk2.out) Hs.out)
    obtain ⟨y0, y1, y2, y3, _, _, _, _⟩ := HF2.out
    clear hb
    go_wp2_with fail
    (with_reducible refine HRo.out.mono ?_)
    rintro e w3 ⟨q0, q1, ql, rfl, hk3, hM⟩
    have hk4 := Kp.trans hk3 (Kp.new w3 (.cells #[.string nm, .slice (some ⟨q0, 0, none⟩) n0 (n0 + 6), .slice (some ⟨q1, 0, none⟩) n1 (n1 + 6), .slice (some ⟨ql, 0, none⟩) nl (nl + 6)] 26))
    have hF3 := Four.new w3 (.string nm) (.slice (some ⟨q0, 0, none⟩) n0 (n0 + 6)) (.slice (some ⟨q1, 0, none⟩) n1 (n1 + 6)) (.slice (some ⟨ql, 0, none⟩) nl (nl + 6)) 26
    have hM4 := hM.kp (Kp.new w3 (.cells #[.string nm, .slice (some ⟨q0, 0, none⟩) n0 (n0 + 6), .slice (some ⟨q1, 0, none⟩) n1 (n1 + 6), .slice (some ⟨ql, 0, none⟩) nl (nl + 6)] 26))
    clear y0 y1 y2 y3 hM hk3
    go_upto_region 4 with fail
    generalize w3.alloc (.cells #[.string nm, .slice (some ⟨q0, 0, none⟩) n0 (n0 + 6), .slice (some ⟨q1, 0, none⟩) n1 (n1 + 6), .slice (some ⟨ql, 0, none⟩) nl (nl + 6)] 26) = w4 at *
    generalize w3.heap.size = p3 at *
    refine anyH_start (fun v => Four v bx (.string nm) (.slice a0 n0 c0) (.slice a1 n1 c1) (.slice al nl cl) ∧ Four v p3 (.string nm) (.slice (some ⟨q0, 0, none⟩) n0 (n0 + 6)) (.slice (some ⟨q1, 0, none⟩) n1 (n1 + 6)) (.slice (some ⟨ql, 0, none⟩) nl (nl + 6))) (by kernel_rfl) ?_
    obtain ⟨wd, hwd⟩ : ∃ wd, wd = w4.drew := ⟨_, rfl⟩
    have hkd : Kp w4 wd := hwd ▸ (⟨rfl, rfl, rfl, Nat.le_refl _, fun _ _ => rfl⟩ : Kp w4 w4.drew)
    rw [← hwd]
    have hq := And.intro (HF2.out.kp (Kp.trans hk4 hkd)) (hF3.kp hkd)
    have HM := Lib.hid (hM4.kp hkd)
    have HK := Lib.hid (Kp.trans Hk2.out (Kp.trans hk4 hkd))
    have HD := Lib.hid (Kp.refl wd)
    clear hwd hk4 hkd hF3 hM4
    refine anyH_load 3 12 (patV nm a0 a1 al n0 c0 n1 c1 nl cl) rfl rfl (by kernel_rfl) hq (fun w h => exec_load26 h.1 rfl rfl) ?_
    simp only [Act.put, List.setIfInBounds_toArray, List.set_cons_zero, List.set_cons_succ]
    refine anyH_load 0 9 (patV nm (some ⟨q0, 0, none⟩) (some ⟨q1, 0, none⟩) (some ⟨ql, 0, none⟩) n0 (n0 + 6) n1 (n1 + 6) nl (nl + 6)) rfl rfl (by kernel_rfl) hq (fun w h => exec_load26 h.2 rfl rfl) ?_
    simp only [Act.put, List.setIfInBounds_toArray, List.set_cons_zero, List.set_cons_succ]
    refine anyH_one 1 (by kernel_rfl) ?_
    simp only [opsAt, List.getElem?_toArray, List.getElem?_cons_zero, List.getElem?_cons_succ]
    have HC := Lib.hid (check_any _ E (HE.out.keep HK.out).errs nm _ _ _ n0 (n0 + 6) n1 (n1 + 6) nl (nl + 6) b0 b1 ls ((HM.out.kp HD.out).pat Hs.out.ts Hs.out.nl).i0 ((HM.out.kp HD.out).pat Hs.out.ts Hs.out.nl).i1 ((HM.out.kp HD.out).pat Hs.out.ts Hs.out.nl).il)
    go_wp2_with fail
    (with_reducible refine HC.out.mono ?_)
    rintro e v1 ⟨rfl, hk⟩
    replace HK := Lib.hid (Kp.trans HK.out hk)
    replace HD := Lib.hid (Kp.trans HD.out hk)
    replace hq := And.intro (hq.1.kp hk) (hq.2.kp hk)
    clear hk
    clear HC
    go_wp2_with fail
    refine anyH_one 2 (by kernel_rfl) ?_
    simp only [opsAt, List.getElem?_toArray, List.getElem?_cons_zero, List.getElem?_cons_succ]
    have HC := Lib.hid (code_any _ E m (HE.out.keep HK.out) (checkL b0 b1 ls) (checkL_code b0 b1 ls))
    go_wp2_with fail
    (with_reducible refine HC.out.mono ?_)
    rintro e v2 ⟨rfl, rfl⟩
    clear HC
    go_wp2_with fail
    refine anyH_one 4 (by kernel_rfl) ?_
    simp only [opsAt, List.getElem?_toArray, List.getElem?_cons_zero, List.getElem?_cons_succ]
    have HC := Lib.hid (refCheck_any _ nm a0 a1 al n0 c0 n1 c1 nl cl b0 b1 ls (HPI.out.kp HK.out).i0 (HPI.out.kp HK.out).i1 (HPI.out.kp HK.out).il)
    go_wp2_with fail
    (with_reducible refine HC.out.mono ?_)
    rintro e v3 ⟨rfl, hk⟩
    replace HK := Lib.hid (Kp.trans HK.out hk)
    replace HD := Lib.hid (Kp.trans HD.out hk)
    replace hq := And.intro (hq.1.kp hk) (hq.2.kp hk)
    clear hk
    clear HC
    go_wp2_with fail
    rw [checkR_eq]
    refine anyH_take [5, 6] (by kernel_rfl) hq ?_
    simp only [opsAt, List.getElem?_toArray, List.getElem?_cons_zero, List.getElem?_cons_succ]
    repeat (go_big_quiet_step (fail))
    refine wpQuiet_nil ?_
    refine anyH_loadG 7 16 (patV nm (some ⟨q0, 0, none⟩) (some ⟨q1, 0, none⟩) (some ⟨ql, 0, none⟩) n0 (n0 + 6) n1 (n1 + 6) nl (nl + 6)) rfl rfl (by kernel_rfl) (by kernel_rfl) hq (fun w h => exec_load26 h.2 rfl rfl) ?_
    simp only [Act.put, List.setIfInBounds_toArray, List.set_cons_zero, List.set_cons_succ]
    refine anyH_loadG 8 17 (patV nm a0 a1 al n0 c0 n1 c1 nl cl) rfl rfl (by kernel_rfl) (by kernel_rfl) hq (fun w h => exec_load26 h.1 rfl rfl) ?_
    simp only [Act.put, List.setIfInBounds_toArray, List.set_cons_zero, List.set_cons_succ]
    refine anyH_one 9 (by kernel_rfl) ?_
    simp only [opsAt, List.getElem?_toArray, List.getElem?_cons_zero, List.getElem?_cons_succ]
    have HC := Lib.hid (left_yes _ nm q0 q1 ql a0 a1 al n0 c0 n1 c1 nl cl b0 b1 ls (HM.out.kp HD.out) (HPI.out.kp HK.out) Hs.out)
    go_wp2_with fail
    (with_reducible refine HC.out.mono ?_)
    rintro e v4 ⟨rfl, hk⟩
    replace HK := Lib.hid (Kp.trans HK.out hk)
    replace HD := Lib.hid (Kp.trans HD.out hk)
    replace hq := And.intro (hq.1.kp hk) (hq.2.kp hk)
    clear hk
    clear HC
    go_wp2_with fail
    refine anyH_take [10, 11] (by kernel_rfl) hq ?_
    simp only [opsAt, List.getElem?_toArray, List.getElem?_cons_zero, List.getElem?_cons_succ]
    repeat (go_big_quiet_step (fail))
    refine wpQuiet_nil ?_
    refine anyH_loadG 15 24 (patV nm a0 a1 al n0 c0 n1 c1 nl cl) rfl rfl (by kernel_rfl) (by kernel_rfl) hq (fun w h => exec_load26 h.1 rfl rfl) ?_
    simp only [Act.put, List.setIfInBounds_toArray, List.set_cons_zero, List.set_cons_succ]
    refine anyH_loadG 12 21 (patV nm (some ⟨q0, 0, none⟩) (some ⟨q1, 0, none⟩) (some ⟨ql, 0, none⟩) n0 (n0 + 6) n1 (n1 + 6) nl (nl + 6)) rfl rfl (by kernel_rfl) (by kernel_rfl) hq (fun w h => exec_load26 h.2 rfl rfl) ?_
    simp only [Act.put, List.setIfInBounds_toArray, List.set_cons_zero, List.set_cons_succ]
    refine anyH_one 13 (by kernel_rfl) ?_
    simp only [opsAt, List.getElem?_toArray, List.getElem?_cons_zero, List.getElem?_cons_succ]
    have HC := Lib.hid (check_any _ E (HE.out.keep HK.out).errs nm _ _ _ n0 (n0 + 6) n1 (n1 + 6) nl (nl + 6) b0 b1 ls ((HM.out.kp HD.out).pat Hs.out.ts Hs.out.nl).i0 ((HM.out.kp HD.out).pat Hs.out.ts Hs.out.nl).i1 ((HM.out.kp HD.out).pat Hs.out.ts Hs.out.nl).il)
    go_wp2_with fail
    (with_reducible refine HC.out.mono ?_)
    rintro e v5 ⟨rfl, hk⟩
    replace HK := Lib.hid (Kp.trans HK.out hk)
    replace HD := Lib.hid (Kp.trans HD.out hk)
    replace hq := And.intro (hq.1.kp hk) (hq.2.kp hk)
    clear hk
    clear HC
    go_wp2_with fail
    refine anyH_one 14 (by kernel_rfl) ?_
    simp only [opsAt, List.getElem?_toArray, List.getElem?_cons_zero, List.getElem?_cons_succ]
    have HC := Lib.hid (code_any _ E m (HE.out.keep HK.out) (checkL b0 b1 ls) (checkL_code b0 b1 ls))
    go_wp2_with fail
    (with_reducible refine HC.out.mono ?_)
    rintro e v6 ⟨rfl, rfl⟩
    clear HC
    go_wp2_with fail
    refine anyH_one 16 (by kernel_rfl) ?_
    simp only [opsAt, List.getElem?_toArray, List.getElem?_cons_zero, List.getElem?_cons_succ]
    have HC := Lib.hid (refCheck_any _ nm a0 a1 al n0 c0 n1 c1 nl cl b0 b1 ls (HPI.out.kp HK.out).i0 (HPI.out.kp HK.out).i1 (HPI.out.kp HK.out).il)
    go_wp2_with fail
    (with_reducible refine HC.out.mono ?_)
    rintro e v7 ⟨rfl, hk⟩
    replace HK := Lib.hid (Kp.trans HK.out hk)
    replace HD := Lib.hid (Kp.trans HD.out hk)
    replace hq := And.intro (hq.1.kp hk) (hq.2.kp hk)
    clear hk
    clear HC
    go_wp2_with fail
    rw [checkR_eq]
    refine anyH_take [17, 18, 19] (by kernel_rfl) hq ?_
    simp only [opsAt, List.getElem?_toArray, List.getElem?_cons_zero, List.getElem?_cons_succ]
    repeat (go_big_quiet_step (fail))
    refine wpQuiet_nil ?_
    refine anyH_one 20 (by kernel_rfl) ?_
    simp only [opsAt, List.getElem?_toArray, List.getElem?_cons_zero, List.getElem?_cons_succ]
    have HC := Lib.hid (law_known _ E m (HE.out.keep HK.out))
    go_wp2_with fail
    (with_reducible refine HC.out.mono ?_)
    rintro e v8 ⟨rfl, hk⟩
    replace HK := Lib.hid (Kp.trans HK.out hk)
    replace HD := Lib.hid (Kp.trans HD.out hk)
    replace hq := And.intro (hq.1.kp hk) (hq.2.kp hk)
    clear hk
    clear HC
    go_wp2_with fail
    refine anyH_take [21] (by kernel_rfl) hq ?_
    simp only [opsAt, List.getElem?_toArray, List.getElem?_cons_zero, List.getElem?_cons_succ]
    repeat (go_big_quiet_step (fail))
    refine wpQuiet_nil ?_
    refine anyH_one 22 (by kernel_rfl) ?_
    simp only [opsAt, List.getElem?_toArray, List.getElem?_cons_zero, List.getElem?_cons_succ]
    go_wp2_with fail
    refine anyH_end (by kernel_rfl) ?_
    go_wp2_with fail
    go_ret
    exact ⟨rfl, HK.out⟩
end Go.Proofs.YtkmejehhdjdlbaaGreatDoor

namespace Go.Proofs.YtkmejehhdjdlbaaGreatDoor
open Go.RowKit

abbrev Mdf := ByteArray × List Int × List Int × List Ln × Nat
/-- What is answered: the name, what is known ahead, the messages, the error's number. -/
def mdf (p : Q.Pn) (ws : List Q.Bt) : Mdf := match Q.modR p ws with
  | (some q, _) => (bs q.nm, q.b0, q.b1, q.ls, 0)
  | (none, c) => (⟨#[]⟩, [], [], [], c)
theorem srtI_srt : Q.Srt srtI := ⟨by simp [srtI], by simp [srtI], by simp [srtI], by simp [srtI, List.mergeSort], by simp [srtI, List.mergeSort]⟩
theorem modR_code (p : Q.Pn) (ws : List Q.Bt) : match Q.modR p ws with
    | (some q, _) => q.ls.length ≤ 5000 ∧ ∀ l ∈ q.ls, l.2.length ≤ 5000
    | (none, c) => c ≠ 0 ∧ c ∈ codes := by
  unfold Q.modR
  by_cases h : p.code = 0
  · rw [if_neg (by simp [h])]
    cases Q.goR 0 0 p ws with
    | none => simp [codes]
    | some q =>
      simp only
      by_cases hc : q.code = 0
      · rw [if_pos hc]
        exact ⟨by have := (code0 hc).2.2.2.1; simp only; omega, fun l hl => by have := ((code0 hc).2.2.2.2 l hl).2.2.1; omega⟩
      · rw [if_neg hc]
        rcases checkL_code q.b0 q.b1 q.ls with h | h
        · exact absurd h hc
        · exact ⟨hc, h⟩
  · rw [if_pos h]
    rcases checkL_code p.b0 p.b1 p.ls with h2 | h2
    · exact absurd h2 h
    · exact ⟨h, h2⟩
theorem mdf_code (p : Q.Pn) (ws : List Q.Bt) : (mdf p ws).2.2.2.2 = 0 ∨ (mdf p ws).2.2.2.2 ∈ codes := by
  have h := modR_code p ws
  unfold mdf
  generalize Q.modR p ws = x at h
  obtain ⟨q, c⟩ := x
  cases q with
  | none => exact .inr h.2
  | some q => exact .inl rfl
theorem mod_wide (w : World) (E : Nat → Addr) (m : Int) (hE : Env w E m) (nm : ByteArray) (a0 a1 al : Option Addr) (n0 c0 n1 c1 nl cl : Nat) (b0 b1 : List Int) (ls : List Ln) (hP : PatI w a0 a1 al n0 n1 nl b0 b1 ls) (hs : ShortM nm n0 n1 nl ls)
    (ao : Option Addr) (nw cw : Nat) (ss : List ByteArray) (hW : Strs w ao nw ss) (hz : ∀ s ∈ ss, s.size ≤ 281474976710656) (hn : nw ≤ 200) :
    Calls Tryz.prog 19 #[patV nm a0 a1 al n0 c0 n1 c1 nl cl, .slice ao nw cw] w fun e w' => Kp w w' ∧ ∃ t0 t1 tl : Tv,
      e = .returned (.tuple #[.agg #[.string (mdf ⟨nm.data.toList, b0, b1, ls⟩ (wb ss)).1, tvv t0, tvv t1, tvv tl], errV E (mdf ⟨nm.data.toList, b0, b1, ls⟩ (wb ss)).2.2.2.2]) ∧
      ∀ X w'', Fr X w' w'' → (∀ x ∈ X, x < w.heap.size) → PatI w'' t0.ao t1.ao tl.ao t0.n t1.n tl.n (mdf ⟨nm.data.toList, b0, b1, ls⟩ (wb ss)).2.1 (mdf ⟨nm.data.toList, b0, b1, ls⟩ (wb ss)).2.2.1 (mdf ⟨nm.data.toList, b0, b1, ls⟩ (wb ss)).2.2.2.1 := by
  refine (modify_wide w E m hE nm a0 a1 al n0 c0 n1 c1 nl cl b0 b1 ls hP hs ao nw cw ss hW hz hn).mono ?_
  rintro e w' ⟨hk, h⟩
  refine ⟨hk, ?_⟩
  rw [Q.mod_eq srtI_srt] at h
  have hc := modR_code ⟨nm.data.toList, b0, b1, ls⟩ (wb ss)
  unfold mdf
  generalize Q.modR ⟨nm.data.toList, b0, b1, ls⟩ (wb ss) = x at h hc
  obtain ⟨q, c⟩ := x
  cases q with
  | none => exact ⟨nilT, nilT, nilT, by rw [h, errV_ptr E hc.1]; rfl, fun _ w'' _ _ => PatI.none w''⟩
  | some q =>
    obtain ⟨t0, t1, tf, td, ts, D, he, hd, h1, hl, hS⟩ := h
    exact ⟨t0, t1, subT tf D.length, by rw [he, errV_nil], fun X w'' hF hX => ((DrS.mk hd h1 hl hS).fr hF (fun x hx => .inl (hX x hx))).pat (by have := hc.1; omega) (fun l hl => by have := hc.2 l hl; omega)⟩
theorem mod_all (w : World) (E : Nat → Addr) (m : Int) (hE : Env w E m) (nm : ByteArray) (a0 a1 al : Option Addr) (n0 c0 n1 c1 nl cl : Nat) (b0 b1 : List Int) (ls : List Ln) (hP : PatI w a0 a1 al n0 n1 nl b0 b1 ls) (hs : ShortP nm n0 n1 nl ls)
    (ao : Option Addr) (nw cw : Nat) (ss : List ByteArray) (hW : Strs w ao nw ss) (hz : ∀ s ∈ ss, s.size ≤ 281474976710656) (hn : nw ≤ 200) :
    Calls Tryz.prog 19 #[patV nm a0 a1 al n0 c0 n1 c1 nl cl, .slice ao nw cw] w fun e w' => Kp w w' ∧ ∃ t0 t1 tl : Tv,
      e = .returned (.tuple #[.agg #[.string (mdf ⟨nm.data.toList, b0, b1, ls⟩ (wb ss)).1, tvv t0, tvv t1, tvv tl], errV E (mdf ⟨nm.data.toList, b0, b1, ls⟩ (wb ss)).2.2.2.2]) ∧
      ∀ X w'', Fr X w' w'' → (∀ x ∈ X, x < w.heap.size) → PatI w'' t0.ao t1.ao tl.ao t0.n t1.n tl.n (mdf ⟨nm.data.toList, b0, b1, ls⟩ (wb ss)).2.1 (mdf ⟨nm.data.toList, b0, b1, ls⟩ (wb ss)).2.2.1 (mdf ⟨nm.data.toList, b0, b1, ls⟩ (wb ss)).2.2.2.1 :=
  mod_wide w E m hE nm a0 a1 al n0 c0 n1 c1 nl cl b0 b1 ls hP hs.wide ao nw cw ss hW hz hn
end Go.Proofs.YtkmejehhdjdlbaaGreatDoor
