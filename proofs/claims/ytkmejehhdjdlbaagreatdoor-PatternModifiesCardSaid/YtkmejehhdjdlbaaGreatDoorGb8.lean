/- Parts of the walks and plain laws, merged: Mdf, LawMo. Each theorem bears its own conditions; no other. -/
import Derived.Test.YtkmejehhdjdlbaaGreatDoorRefMod
import Derived.Test.YtkmejehhdjdlbaaGreatDoorGb7
import Derived.Test.YtkmejehhdjdlbaaGreatDoorLawCk
import Derived.Test.YtkmejehhdjdlbaaGreatDoorKn
import Derived.Test.YtkmejehhdjdlbaaGreatDoorGb6
import Derived.Test.YtkmejehhdjdlbaaGreatDoorGb1
namespace Go.Proofs.YtkmejehhdjdlbaaGreatDoor
open Go.RowKit

abbrev Mdf := ByteArray × List Int × List Int × List Ln × Nat
/-- What is answered: the name, what is known ahead, the messages, the error's number. -/
def mdf (p : Q.Pn) (ws : List Q.Bt) : Mdf := match Q.modR p ws with
  | (some q, _) => (bs q.nm, q.b0, q.b1, q.ls, 0)
  | (none, c) => (⟨#[]⟩, [], [], [], c)
theorem srtI_srt : Q.Srt srtI := ⟨by simp [srtI], by simp [srtI], by simp [srtI], by simp [srtI, List.mergeSort], by simp [srtI, List.mergeSort]⟩
theorem modR_code (p : Q.Pn) (ws : List Q.Bt) : match Q.modR p ws with
    | (some q, _) => q.ls.length ≤ 5000 ∧ ∀ l ∈ q.ls, l.2.length ≤ 5000
    | (none, c) => c ≠ 0 ∧ c ∈ codes := by
  unfold Q.modR
  by_cases h : p.code = 0
  · rw [if_neg (by simp [h])]
    cases Q.goR 0 0 p ws with
    | none => simp [codes]
    | some q =>
      simp only
      by_cases hc : q.code = 0
      · rw [if_pos hc]
        exact ⟨by have := (code0 hc).2.2.2.1; simp only; omega, fun l hl => by have := ((code0 hc).2.2.2.2 l hl).2.2.1; omega⟩
      · rw [if_neg hc]
        rcases checkL_code q.b0 q.b1 q.ls with h | h
        · exact absurd h hc
        · exact ⟨hc, h⟩
  · rw [if_pos h]
    rcases checkL_code p.b0 p.b1 p.ls with h2 | h2
    · exact absurd h2 h
    · exact ⟨h, h2⟩
theorem mdf_code (p : Q.Pn) (ws : List Q.Bt) : (mdf p ws).2.2.2.2 = 0 ∨ (mdf p ws).2.2.2.2 ∈ codes := by
  have h := modR_code p ws
  unfold mdf
  generalize Q.modR p ws = x at h
  obtain ⟨q, c⟩ := x
  cases q with
  | none => exact .inr h.2
  | some q => exact .inl rfl
theorem mod_all (w : World) (E : Nat → Addr) (m : Int) (hE : Env w E m) (nm : ByteArray) (a0 a1 al : Option Addr) (n0 c0 n1 c1 nl cl : Nat) (b0 b1 : List Int) (ls : List Ln) (hP : PatI w a0 a1 al n0 n1 nl b0 b1 ls) (hs : ShortP nm n0 n1 nl ls)
    (ao : Option Addr) (nw cw : Nat) (ss : List ByteArray) (hW : Strs w ao nw ss) (hz : ∀ s ∈ ss, s.size ≤ 281474976710656) (hn : nw ≤ 200) :
    Calls Tryz.prog 19 #[patV nm a0 a1 al n0 c0 n1 c1 nl cl, .slice ao nw cw] w fun e w' => Kp w w' ∧ ∃ t0 t1 tl : Tv,
      e = .returned (.tuple #[.agg #[.string (mdf ⟨nm.data.toList, b0, b1, ls⟩ (wb ss)).1, tvv t0, tvv t1, tvv tl], errV E (mdf ⟨nm.data.toList, b0, b1, ls⟩ (wb ss)).2.2.2.2]) ∧
      ∀ X w'', Fr X w' w'' → (∀ x ∈ X, x < w.heap.size) → PatI w'' t0.ao t1.ao tl.ao t0.n t1.n tl.n (mdf ⟨nm.data.toList, b0, b1, ls⟩ (wb ss)).2.1 (mdf ⟨nm.data.toList, b0, b1, ls⟩ (wb ss)).2.2.1 (mdf ⟨nm.data.toList, b0, b1, ls⟩ (wb ss)).2.2.2.1 := by
  refine (modify_any w E m hE nm a0 a1 al n0 c0 n1 c1 nl cl b0 b1 ls hP hs ao nw cw ss hW hz hn).mono ?_
  rintro e w' ⟨hk, h⟩
  refine ⟨hk, ?_⟩
  rw [Q.mod_eq srtI_srt] at h
  have hc := modR_code ⟨nm.data.toList, b0, b1, ls⟩ (wb ss)
  unfold mdf
  generalize Q.modR ⟨nm.data.toList, b0, b1, ls⟩ (wb ss) = x at h hc
  obtain ⟨q, c⟩ := x
  cases q with
  | none => exact ⟨nilT, nilT, nilT, by rw [h, errV_ptr E hc.1]; rfl, fun _ w'' _ _ => PatI.none w''⟩
  | some q =>
    obtain ⟨t0, t1, tf, td, ts, D, he, hd, h1, hl, hS⟩ := h
    exact ⟨t0, t1, subT tf D.length, by rw [he, errV_nil], fun X w'' hF hX => ((DrS.mk hd h1 hl hS).fr hF (fun x hx => .inl (hX x hx))).pat (by have := hc.1; omega) (fun l hl => by have := hc.2 l hl; omega)⟩
theorem rmod_all (w : World) (nm : ByteArray) (a0 a1 al : Option Addr) (n0 c0 n1 c1 nl cl : Nat) (b0 b1 : List Int) (ls : List Ln) (hP : PatI w a0 a1 al n0 n1 nl b0 b1 ls) (hs : ShortP nm n0 n1 nl ls)
    (ao : Option Addr) (nw cw : Nat) (ss : List ByteArray) (hW : Strs w ao nw ss) (hz : ∀ s ∈ ss, s.size ≤ 281474976710656) (hn : nw ≤ 200) :
    Calls Tryz.prog 38 #[patV nm a0 a1 al n0 c0 n1 c1 nl cl, .slice ao nw cw] w fun e w' => Kp w w' ∧ ∃ t0 t1 tl : Tv,
      e = .returned (.tuple #[.agg #[.string (mdf ⟨nm.data.toList, b0, b1, ls⟩ (wb ss)).1, tvv t0, tvv t1, tvv tl], iv (((mdf ⟨nm.data.toList, b0, b1, ls⟩ (wb ss)).2.2.2.2 : Nat) : Int)]) ∧
      PatI w' t0.ao t1.ao tl.ao t0.n t1.n tl.n (mdf ⟨nm.data.toList, b0, b1, ls⟩ (wb ss)).2.1 (mdf ⟨nm.data.toList, b0, b1, ls⟩ (wb ss)).2.2.1 (mdf ⟨nm.data.toList, b0, b1, ls⟩ (wb ss)).2.2.2.1 := by
  refine (rmodify_any w nm a0 a1 al n0 c0 n1 c1 nl cl b0 b1 ls hP hs ao nw cw ss hW hz hn).mono ?_
  rintro e w' ⟨hk, h⟩
  refine ⟨hk, ?_⟩
  have hc := modR_code ⟨nm.data.toList, b0, b1, ls⟩ (wb ss)
  unfold mdf
  generalize Q.modR ⟨nm.data.toList, b0, b1, ls⟩ (wb ss) = x at h hc
  obtain ⟨q, c⟩ := x
  cases q with
  | none => exact ⟨nilT, nilT, nilT, by rw [h]; rfl, PatI.none w'⟩
  | some q =>
    obtain ⟨t0, t1, tf, td, ts, D, he, hd, h1, hl, hS⟩ := h
    exact ⟨t0, t1, subT tf D.length, by rw [he]; rfl, (DrS.mk hd h1 hl hS).pat (by have := hc.1; omega) (fun l hl => by have := hc.2 l hl; omega)⟩
end Go.Proofs.YtkmejehhdjdlbaaGreatDoor

namespace Go.Proofs.YtkmejehhdjdlbaaGreatDoor
open Go.RowKit

theorem two_more (ss : List ByteArray) (n : Nat) : ss.map Value.string ++ (List.replicate (n + 2) (Value.string ⟨#[]⟩)).drop n = (ss ++ [(⟨#[]⟩ : ByteArray), ⟨#[]⟩]).map Value.string := by
  rw [List.drop_replicate, Nat.add_sub_cancel_left, List.map_append]
  rfl
theorem strs_pre {w : World} {b n : Nat} {ss : List ByteArray} {pw : Nat} {r : List ByteArray} (hl : ss.length = n) (h : Own w b 9 1 (some ⟨pw, 0, none⟩) (n + 2) (n + 2) ((ss ++ r).map .string)) : Strs w (some ⟨pw, 0, none⟩) n ss := by
  have h2 := h.strs
  refine ⟨hl, by have := h2.2.1; omega, fun j u hu => h2.2.2 j u ?_⟩
  rw [List.map_append, List.getElem?_append_left (by have := (List.getElem?_eq_some_iff.1 hu).1; exact this)]
  exact hu
theorem end_cells {w : World} {b n : Nat} {ss : List ByteArray} {pw : Nat} (hl : ss.length = n) (h : Own w b 9 1 (some ⟨pw, 0, none⟩) (n + 2) (n + 2) ((ss ++ [(⟨#[]⟩ : ByteArray), ⟨#[]⟩]).map .string)) :
    w.cell? ⟨pw, n, none⟩ = some (.string ⟨#[]⟩) ∧ w.cell? ⟨pw, n + 1, none⟩ = some (.string ⟨#[]⟩) := by
  obtain ⟨b', off, e, hc⟩ := h.strs.2.2.at n (by simp; omega)
  cases e
  subst hl
  exact ⟨by simpa using hc ss.length _ (by rw [List.getElem?_map, List.getElem?_append_right (Nat.le_refl _), Nat.sub_self]; rfl), by simpa using hc (ss.length + 1) _ (by rw [List.getElem?_map, List.getElem?_append_right (by omega), Nat.add_sub_cancel_left]; rfl)⟩
theorem word_cell {w : World} {n k : Nat} {ss : List ByteArray} {pw : Nat} (hk : k < ss.length) (h : Strs w (some ⟨pw, 0, none⟩) n ss) : w.cell? ⟨pw, k, none⟩ = some (.string ss[k]) := by
  obtain ⟨b', off, e, hc⟩ := h.2.2.at k (by simpa using hk)
  cases e
  simpa using hc k (.string ss[k]) (by rw [List.getElem?_map, List.getElem?_eq_getElem hk]; rfl)
/-- Where the answer lies. -/
def MoEnd (w : World) (E : Nat → Addr) (nq : ByteArray) (d0 d1 : List Int) (dl : List Ln) (c : Nat) (v7 v8 : Value) (w' : World) : Prop := ∃ (bm : Nat) (t0 t1 tl : Tv), v7 = .pointer (some ⟨bm, 0, none⟩) ∧ v8 = errV E c ∧ Kp w w' ∧
  Four w' bm (.string nq) (tvv t0) (tvv t1) (tvv tl) ∧ PatI w' t0.ao t1.ao tl.ao t0.n t1.n tl.n d0 d1 dl
set_option maxRecDepth 100000 in
set_option maxHeartbeats 8000000 in
theorem modifies_true (w : World) (E : Nat → Addr) (m : Int) (hE : Env w E m) (nm : ByteArray) (a0 a1 al : Option Addr) (n0 c0 n1 c1 nl cl : Nat) (b0 b1 : List Int) (ls : List Ln) (hnm : nm.size ≤ 9223372036854775807) (hP : PatI w a0 a1 al n0 n1 nl b0 b1 ls)
    (ao : Option Addr) (nw cw : Nat) (ss : List ByteArray) (hW : Strs w ao nw ss) (hz : ∀ s ∈ ss, s.size ≤ 281474976710656) :
    Calls Tryz.prog 9 #[patV nm a0 a1 al n0 c0 n1 c1 nl cl, .slice ao nw cw] w fun e w' => e = .returned (.bool true) ∧ Kp w w' := by
  have HE := Lib.hid hE
  have HPI := Lib.hid hP
  have HW := Lib.hid hW
  have Hz := Lib.hid hz
  have hk1 := Kp.new w (.cells #[.string nm, .slice a0 n0 c0, .slice a1 n1 c1, .slice al nl cl] 26)
  have hF1 := Four.new w (.string nm) (.slice a0 n0 c0) (.slice a1 n1 c1) (.slice al nl cl) 26
  have HMu := Lib.hid (much_any _ nm a0 a1 al n0 c0 n1 c1 nl cl b0 b1 ls hnm (hP.kp hk1))
  have HF1 := Lib.hid hF1
  have Hk1 := Lib.hid hk1
  obtain ⟨y0, y1, y2, y3, z0, z1, z2, z3⟩ := hF1
  clear hE hP hW hz hk1 z0 z1 z2 z3
  go_enter Tryz.func9, Tryz.ntmps9
  go_upto_region 1 with fail
  obtain ⟨bx, hbx⟩ : ∃ bx, bx = w.heap.size := ⟨_, rfl⟩
  rw [← hbx] at HF1 y0 y1 y2 y3 ⊢
  generalize w.alloc (.cells #[.string nm, .slice a0 n0 c0, .slice a1 n1 c1, .slice al nl cl] 26) = w1 at *
  clear hbx
  go_wp2_with fail
  (with_reducible refine HMu.out.mono ?_)
  rintro e w2 ⟨b, rfl, hk2, hb⟩
  have Hk2 := Lib.hid (Kp.trans Hk1.out hk2)
  have HF2 := Lib.hid (HF1.out.kp hk2)
  clear y0 y1 y2 y3 hk2
  cases b with
  | true =>
    clear hb
    have HKn := Lib.hid (law_known w2 E m (HE.out.keep Hk2.out))
    go_wp2_with fail
    (with_reducible refine HKn.out.mono ?_)
    rintro e w3 ⟨rfl, hk3⟩
    have Hk3 := Lib.hid (Kp.trans Hk2.out hk3)
    clear hk3
    go_wp2_with fail
    go_ret
    exact ⟨rfl, Hk3.out⟩
  | false =>
    have Hs := Lib.hid (hb rfl)
    clear hb
    by_cases h2 : 200 < nw
    · have HKn := Lib.hid (law_known w2 E m (HE.out.keep Hk2.out))
      go_wp2_with fail
      (with_reducible refine HKn.out.mono ?_)
      rintro e w3 ⟨rfl, hk3⟩
      have Hk3 := Lib.hid (Kp.trans Hk2.out hk3)
      clear hk3
      go_wp2_with fail
      go_ret
      exact ⟨rfl, Hk3.out⟩
    · have h2n : nw ≤ 200 := by omega
      have HRo := Lib.hid (roomy_any w2 nm a0 a1 al n0 c0 n1 c1 nl cl b0 b1 ls (HPI.out.kp Hk2.out) Hs.out)
      obtain ⟨y0, y1, y2, y3, _, _, _, _⟩ := HF2.out
      go_wp2_with fail
      (with_reducible refine HRo.out.mono ?_)
      rintro e w3 ⟨q0, q1, ql, rfl, hk3, hM⟩
      have hk4 := Kp.trans hk3 (Kp.new w3 (.cells #[.string nm, .slice (some ⟨q0, 0, none⟩) n0 (n0 + 6), .slice (some ⟨q1, 0, none⟩) n1 (n1 + 6), .slice (some ⟨ql, 0, none⟩) nl (nl + 6)] 26))
      have hF3 := Four.new w3 (.string nm) (.slice (some ⟨q0, 0, none⟩) n0 (n0 + 6)) (.slice (some ⟨q1, 0, none⟩) n1 (n1 + 6)) (.slice (some ⟨ql, 0, none⟩) nl (nl + 6)) 26
      have hM4 := hM.kp (Kp.new w3 (.cells #[.string nm, .slice (some ⟨q0, 0, none⟩) n0 (n0 + 6), .slice (some ⟨q1, 0, none⟩) n1 (n1 + 6), .slice (some ⟨ql, 0, none⟩) nl (nl + 6)] 26))
      clear y0 y1 y2 y3 hM hk3
      go_upto_region 4 with fail
      generalize w3.alloc (.cells #[.string nm, .slice (some ⟨q0, 0, none⟩) n0 (n0 + 6), .slice (some ⟨q1, 0, none⟩) n1 (n1 + 6), .slice (some ⟨ql, 0, none⟩) nl (nl + 6)] 26) = w4 at *
      generalize w3.heap.size = p3 at *
      have HM4 := Lib.hid hM4
      have HF3 := Lib.hid hF3
      have HF4 := Lib.hid (HF2.out.kp hk4)
      have Hk4 := Lib.hid (Kp.trans Hk2.out hk4)
      clear hM4 hF3 hk4
      have Hl := Lib.hid HW.out.1
      obtain ⟨pw, hpw⟩ : ∃ pw, pw = w4.heap.size := ⟨_, rfl⟩
      go_upto_region 5 with (refine wpList_mk rfl (.tmp 24) (.tmp 24) _ rfl el100 rfl (nw + 2) rfl rfl (by simp) (by simp) (by omega) ?_; intro w5 ho5 hk5)
      rw [← hpw] at ho5 ⊢
      go_upto_region 6 with (refine wpList_cpy rfl (.tmp 26) (.tmp 27) _ _ rfl el100 (by omega) ho5 rfl rfl (ss.map .string) (by simpa using Hl.out) (by omega) (Nat.le_refl _) (hk5.cs (Hk4.out.cs HW.out.2.2)) (by simp [Value.oneCell']) ?_; intro w6 ho6 hf6)
      rw [two_more] at ho6
      have hk46 : Kp w4 w6 := ((Fr.of_kp hk5).step hf6 (fun j hj => .inr (by simp [blkL, blk] at hj; omega))).kp
      have HO6 := Lib.hid ho6
      have HM6 := Lib.hid (HM4.out.kp hk46)
      have HF3b := Lib.hid (HF3.out.kp hk46)
      have HF4b := Lib.hid (HF4.out.kp hk46)
      have Hk6 := Lib.hid (Kp.trans Hk4.out hk46)
      clear ho5 hk5 hf6 ho6 hk46 hpw HM4 HF3 HF4 Hk4
      have HW6 := Lib.hid (strs_pre Hl.out HO6.out)
      have Hmc := Lib.hid (mdf_code ⟨nm.data.toList, b0, b1, ls⟩ (wb ss))
      have HMo := Lib.hid (fun v (hv : Kp w6 v) => mod_all v E m (HE.out.keep (Kp.trans Hk6.out hv)) nm (some ⟨q0, 0, none⟩) (some ⟨q1, 0, none⟩) (some ⟨ql, 0, none⟩) n0 (n0 + 6) n1 (n1 + 6) nl (nl + 6) b0 b1 ls ((HM6.out.kp hv).pat Hs.out.ts Hs.out.nl) Hs.out (some ⟨pw, 0, none⟩) nw (nw + 2) ss (hv.strs HW6.out) Hz.out h2n)
      have HRm := Lib.hid (fun v (hv : Kp w6 v) => rmod_all v nm a0 a1 al n0 c0 n1 c1 nl cl b0 b1 ls (HPI.out.kp (Kp.trans Hk6.out hv)) Hs.out ao nw cw ss ((Kp.trans Hk6.out hv).strs HW.out) Hz.out h2n)
      generalize mdf ⟨nm.data.toList, b0, b1, ls⟩ (wb ss) = x at Hmc HMo HRm
      obtain ⟨nq, d0, d1, dl, c⟩ := x
      simp only at Hmc HMo HRm
      simp only [Act.put, List.setIfInBounds_toArray, List.set_cons_zero, List.set_cons_succ]
      go_cut [7, 8] (fun v7 v8 wc => MoEnd w6 E nq d0 d1 dl c v7 v8 wc)
      case first =>
        refine anyH_start (fun v => Four v p3 (.string nm) (.slice (some ⟨q0, 0, none⟩) n0 (n0 + 6)) (.slice (some ⟨q1, 0, none⟩) n1 (n1 + 6)) (.slice (some ⟨ql, 0, none⟩) nl (nl + 6))) (by kernel_rfl) ?_
        obtain ⟨wd, hwd⟩ : ∃ wd, wd = w6.drew := ⟨_, rfl⟩
        have hkd : Kp w6 wd := hwd ▸ (⟨rfl, rfl, rfl, Nat.le_refl _, fun _ _ => rfl⟩ : Kp w6 w6.drew)
        rw [← hwd]
        have hq := HF3b.out.kp hkd
        have HK := Lib.hid hkd
        clear hwd hkd
        refine anyH_take [1, 2, 3, 4] (by kernel_rfl) hq ?_
        simp only [opsAt, List.getElem?_toArray, List.getElem?_cons_zero, List.getElem?_cons_succ]
        repeat (go_big_quiet_step (fail))
        refine wpQuiet_nil ?_
        refine anyH_load 0 30 (patV nm (some ⟨q0, 0, none⟩) (some ⟨q1, 0, none⟩) (some ⟨ql, 0, none⟩) n0 (n0 + 6) n1 (n1 + 6) nl (nl + 6)) rfl rfl (by kernel_rfl) hq (fun w h => exec_load26 h rfl rfl) ?_
        simp only [Act.put, List.setIfInBounds_toArray, List.set_cons_zero, List.set_cons_succ]
        refine anyH_two 5 9 (by kernel_rfl) ?_ ?_
        · simp only [opsAt, List.getElem?_toArray, List.getElem?_cons_zero, List.getElem?_cons_succ]
          have HC := Lib.hid (HMo.out wd HK.out)
          go_wp2_with fail
          (with_reducible refine HC.out.mono ?_)
          rintro e v1 ⟨hk, t0, t1, tl, rfl, hPX⟩
          unfold tvv
          replace hq := hq.kp hk
          have hk1 := Kp.trans HK.out hk
          have hPv := hPX [] v1 (Fr.refl _ _) (by simp)
          clear hk HC hPX
          go_wp2_with fail
          refine anyH_take [6, 7, 8] (by kernel_rfl) hq ?_
          simp only [opsAt, List.getElem?_toArray, List.getElem?_cons_zero, List.getElem?_cons_succ]
          repeat (go_big_quiet_step (fail))
          refine wpQuiet_nil ?_
          have hZ := Four.new v1 (.string ⟨#[]⟩) (.slice none 0 0) (.slice none 0 0) (.slice none 0 0) 26
          obtain ⟨v3, hv3, hF, hN⟩ := hZ.set (.string nq) (.slice t0.ao t0.n t0.c) (.slice t1.ao t1.n t1.c) (.slice tl.ao tl.n tl.c)
          have hkb : Kp v1 v3 := ((Fr.of_kp (Kp.new v1 (.cells #[.string ⟨#[]⟩, .slice none 0 0, .slice none 0 0, .slice none 0 0] 26))).step hF (fun j hj => .inr (by simp at hj; omega))).kp
          have hPf := hPv.kp hkb
          have hkf := Kp.trans hk1 hkb
          have hqs := hq.kp hkb
          replace hq := hq.kp (Kp.new v1 (.cells #[.string ⟨#[]⟩, .slice none 0 0, .slice none 0 0, .slice none 0 0] 26))
          clear hkb hF hPv hk1
          refine anyH_one 9 (by kernel_rfl) ?_
          simp only [opsAt, List.getElem?_toArray, List.getElem?_cons_zero, List.getElem?_cons_succ]
          go_wp2_with fail
          generalize v1.alloc (.cells #[.string ⟨#[]⟩, .slice none 0 0, .slice none 0 0, .slice none 0 0] 26) = v2 at *
          generalize v1.heap.size = bm at *
          obtain ⟨z0, z1, z2, z3, z4, z5, z6, z7⟩ := hZ
          subst hv3
          refine anyH_one 10 (by kernel_rfl) ?_
          simp only [opsAt, List.getElem?_toArray, List.getElem?_cons_zero, List.getElem?_cons_succ]
          go_wp2_with fail
          refine anyH_one 11 (by kernel_rfl) ?_
          simp only [opsAt, List.getElem?_toArray, List.getElem?_cons_zero, List.getElem?_cons_succ]
          go_wp2_with fail
          refine anyH_end (by kernel_rfl) ?_
          go_wp2_with fail
          go_meet
          case rel => exact ⟨bm, t0, t1, tl, rfl, rfl, hkf, hN, hPf⟩
        · simp only [opsAt, List.getElem?_toArray, List.getElem?_cons_zero, List.getElem?_cons_succ]
          have hZ := Four.new wd (.string ⟨#[]⟩) (.slice none 0 0) (.slice none 0 0) (.slice none 0 0) 26
          have hkn := Kp.new wd (.cells #[.string ⟨#[]⟩, .slice none 0 0, .slice none 0 0, .slice none 0 0] 26)
          have hlt : wd.heap.size < (wd.alloc (.cells #[.string ⟨#[]⟩, .slice none 0 0, .slice none 0 0, .slice none 0 0] 26)).heap.size := by simp
          have hpb : p3 < wd.heap.size := hq.lt
          have hwb : w6.heap.size ≤ wd.heap.size := HK.out.size
          replace hq := hq.kp hkn
          replace HK := Lib.hid HK.out
          go_wp2_with fail
          generalize wd.alloc (.cells #[.string ⟨#[]⟩, .slice none 0 0, .slice none 0 0, .slice none 0 0] 26) = v1 at *
          generalize wd.heap.size = bm at *
          have HC := Lib.hid (HMo.out v1 (Kp.trans HK.out hkn))
          refine anyH_one 5 (by kernel_rfl) ?_
          simp only [opsAt, List.getElem?_toArray, List.getElem?_cons_zero, List.getElem?_cons_succ]
          go_wp2_with fail
          (with_reducible refine HC.out.mono ?_)
          rintro e v2 ⟨hk, t0, t1, tl, rfl, hPX⟩
          unfold tvv
          replace hq := hq.kp hk
          replace hZ := hZ.kp hk
          obtain ⟨v3, hv3, hF, hN⟩ := hZ.set (.string nq) (.slice t0.ao t0.n t0.c) (.slice t1.ao t1.n t1.c) (.slice tl.ao tl.n tl.c)
          have hPf := hPX [bm] v3 hF (by simpa using hlt)
          have hkf : Kp w6 v3 := ((Fr.of_kp (Kp.trans HK.out (Kp.trans hkn hk))).step hF (fun j hj => .inr (by simp at hj; omega))).kp
          have hqs := hq.fr hF (by simp; omega)
          clear hk HC hPX hF hkn
          go_wp2_with fail
          refine anyH_take [6, 7, 8] (by kernel_rfl) hq ?_
          simp only [opsAt, List.getElem?_toArray, List.getElem?_cons_zero, List.getElem?_cons_succ]
          repeat (go_big_quiet_step (fail))
          refine wpQuiet_nil ?_
          obtain ⟨z0, z1, z2, z3, z4, z5, z6, z7⟩ := hZ
          subst hv3
          refine anyH_one 10 (by kernel_rfl) ?_
          simp only [opsAt, List.getElem?_toArray, List.getElem?_cons_zero, List.getElem?_cons_succ]
          go_wp2_with fail
          refine anyH_one 11 (by kernel_rfl) ?_
          simp only [opsAt, List.getElem?_toArray, List.getElem?_cons_zero, List.getElem?_cons_succ]
          go_wp2_with fail
          refine anyH_end (by kernel_rfl) ?_
          go_wp2_with fail
          go_meet
          case rel => exact ⟨bm, t0, t1, tl, rfl, rfl, hkf, hN, hPf⟩
      case rest =>
        obtain ⟨bm, t0, t1, tl, rfl, rfl, hkm, hFm, hPm⟩ := hcut
        unfold tvv at hFm
        have HKm := Lib.hid hkm
        have HFm := Lib.hid hFm
        have HPm := Lib.hid hPm
        have HC := Lib.hid (HRm.out wc hkm)
        obtain ⟨y0, y1, y2, y3, _, _, _, _⟩ := HF4b.out.kp hkm
        clear hkm hFm hPm
        go_wp2_with fail
        (with_reducible refine HC.out.mono ?_)
        rintro e v1 ⟨hk, u0, u1, ul, rfl, hPr⟩
        unfold tvv
        have hk2 := Kp.new v1 (.cells #[.string nq, .slice u0.ao u0.n u0.c, .slice u1.ao u1.n u1.c, .slice ul.ao ul.n ul.c] 26)
        have hF9 := Four.new v1 (.string nq) (.slice u0.ao u0.n u0.c) (.slice u1.ao u1.n u1.c) (.slice ul.ao ul.n ul.c) 26
        have HPr := Lib.hid (hPr.kp hk2)
        have hk3 := Kp.trans hk hk2
        clear hk hPr hk2 HC y0 y1 y2 y3
        go_upto_region 8 with fail
        generalize v1.alloc (.cells #[.string nq, .slice u0.ao u0.n u0.c, .slice u1.ao u1.n u1.c, .slice ul.ao ul.n ul.c] 26) = v2 at *
        generalize v1.heap.size = p9 at *
        have hK6 := Kp.trans HKm.out hk3
        have HPa := Lib.hid (HPm.out.kp hk3)
        have HF7 := Lib.hid (HFm.out.kp hk3)
        have HF9 := Lib.hid hF9
        have HF5 := Lib.hid (HF3b.out.kp hK6)
        have HF2 := Lib.hid (HF4b.out.kp hK6)
        have HM := Lib.hid (HM6.out.kp hK6)
        have HO := Lib.hid (HO6.out.keep hK6)
        have HK := Lib.hid (Kp.trans Hk6.out hK6)
        clear hk3 hK6 hF9 HPm HFm HF3b HF4b HM6 HO6 Hk6 HMo HRm HW6 HKm
        have HS := Lib.hid (same_yes v2 nq t0.ao t1.ao tl.ao u0.ao u1.ao ul.ao t0.n t0.c t1.n t1.c tl.n tl.c u0.n u0.c u1.n u1.c ul.n ul.c d0 d1 dl HPa.out HPr.out)
        have HCo := Lib.hid (code_any v2 E m (HE.out.keep HK.out) c Hmc.out)
        have ⟨x0, x1, x2, x3, _, _, _, _⟩ := HF7.out
        have ⟨z0, z1, z2, z3, _, _, _, _⟩ := HF9.out
        go_wp2_with fail
        (with_reducible refine HCo.out.mono ?_)
        rintro e v2b ⟨rfl, rfl⟩
        go_wp2_with fail
        (with_reducible refine HS.out.mono ?_)
        rintro e v3 ⟨rfl, hk⟩
        clear x0 x1 x2 x3 z0 z1 z2 z3
        have ⟨x0, x1, x2, x3, _, _, _, _⟩ := HF5.out.kp hk
        have ⟨z0, z1, z2, z3, _, _, _, _⟩ := HF2.out.kp hk
        have HL := Lib.hid (left_yes v3 nm q0 q1 ql a0 a1 al n0 c0 n1 c1 nl cl b0 b1 ls (HM.out.kp hk) (HPI.out.kp (Kp.trans HK.out hk)) Hs.out)
        replace HK := Lib.hid (Kp.trans HK.out hk)
        replace HO := Lib.hid (HO.out.keep hk)
        clear hk HM HF5 HF2 HF7 HF9 HS HPa HPr
        go_wp2_with fail
        (with_reducible refine HL.out.mono ?_)
        rintro e v4 ⟨rfl, hk⟩
        replace HK := Lib.hid (Kp.trans HK.out hk)
        replace HO := Lib.hid (HO.out.keep hk)
        clear hk HL x0 x1 x2 x3 z0 z1 z2 z3
        have hx0 := end_cells Hl.out HO.out
        have hx1 := hx0.2
        replace hx0 := hx0.1
        go_wp2_with fail
        clear hx0 hx1
        go_loopw [11] (fun i wr => ∃ k q : Nat, k ≤ nw ∧ i = .int .i64 k ∧ wr = v4.drewN q) (fun i _ => nw - (intOf i).toNat)
        case atStart => exact ⟨0, 0, by omega, rfl, rfl⟩
        case round =>
          obtain ⟨k, q, hk, rfl, rfl⟩ := hrel
          by_cases hlt : k < nw
          · have hkl : k < ss.length := by rw [Hl.out]; exact hlt
            have hc := word_cell hkl (strs_pre Hl.out HO.out)
            obtain ⟨b, off, rfl, hcs⟩ := (HK.out.strs HW.out).at k hlt
            have hd := hcs k hlt
            clear hcs
            generalize ss[k]'hkl = x at hc hd
            go_wp2_with fail
            go_quiet (fail)
            go_wp2_with fail
            go_roundw
            case rel => exact ⟨k + 1, _, by omega, by go_num, by first | rfl | exact World.drewN_drewN _ _ _⟩
            case measure => simp [intOf]; omega
          · have HK5 := Lib.hid (Kp.trans HK.out (Kp.of_drewN v4 q))
            have HN := Lib.hid (law_known (v4.drewN q) E m (HE.out.keep HK5.out))
            go_wp2_with fail
            (with_reducible refine HN.out.mono ?_)
            rintro e w9 ⟨rfl, hk9⟩
            have HK6 := Lib.hid (Kp.trans HK5.out hk9)
            clear hk9
            go_wp2_with fail
            go_ret
            exact ⟨rfl, HK6.out⟩
end Go.Proofs.YtkmejehhdjdlbaaGreatDoor
