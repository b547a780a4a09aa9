/- Parts of the walks and plain laws, merged: Prs, LawPa, LawRe. Each theorem bears its own conditions; no other. -/
import Derived.Test.YtkmejehhdjdlbaaGreatDoorRefParse
import Derived.Test.YtkmejehhdjdlbaaGreatDoorKn
import Derived.Test.YtkmejehhdjdlbaaGreatDoorGa1
import Derived.Test.YtkmejehhdjdlbaaGreatDoorGa9
import Derived.Deep.CutBlock
namespace Go.Proofs.YtkmejehhdjdlbaaGreatDoor
open Go.RowKit

theorem code_small {b0 b1 : List Int} {ls : List Ln} (h : checkL b0 b1 ls = 0) : ls.length ≤ 5000 ∧ ∀ l ∈ ls, l.2.length ≤ 5000 := by
  have hc := code0 h
  refine ⟨by have := hc.2.2.2.1; omega, fun l hl => by have := (hc.2.2.2.2 l hl).2.2.1; omega⟩
theorem parse_all (w : World) (E : Nat → Addr) (m : Int) (hE : Env w E m) (s : ByteArray) (_ : s.size ≤ maxLen) : Calls Tryz.prog 29 #[.string s] w fun e w' => Kp w w' ∧ ∃ t0 t1 tl : Tv,
    e = .returned (.tuple #[.agg #[.string (prs s.data.toList).1, tvv t0, tvv t1, tvv tl], errV E (prs s.data.toList).2.2.2.2]) ∧ PatI w' t0.ao t1.ao tl.ao t0.n t1.n tl.n (prs s.data.toList).2.1 (prs s.data.toList).2.2.1 (prs s.data.toList).2.2.2.1 := by
  refine (parse_any s m E (E 8) w hE.mx hE.errs hE.c5).mono ?_
  rintro e w' ⟨hk, h⟩
  refine ⟨hk, ?_⟩
  unfold prs
  have h8 : errV E 8 = .iface 229 (.pointer (some (E 8))) := errV_ptr E (by decide)
  by_cases hl : 4096 < s.data.toList.length
  · rw [if_pos hl] at h ⊢
    exact ⟨nilT, nilT, nilT, by rw [h]; unfold badR; simp only; rw [h8]; rfl, PatI.none w'⟩
  · rw [if_neg hl] at h ⊢
    cases hr : Q.readP s.data.toList with
    | none =>
      rw [hr] at h
      exact ⟨nilT, nilT, nilT, by rw [h]; simp only [Option.map_none]; unfold badR; simp only; rw [h8]; rfl, PatI.none w'⟩
    | some x =>
      obtain ⟨nm, S⟩ := x
      rw [hr] at h
      simp only [Option.map_some] at h ⊢
      unfold chk
      simp only
      by_cases hc : checkL S.b0 S.b1 S.ls = 0
      · rw [if_pos hc] at h ⊢
        obtain ⟨t0, t1, tl, ts, he, hP⟩ := h
        have hsm := code_small hc
        exact ⟨t0, t1, tl, by rw [he]; simp only; rw [errV_nil], hP.patI hsm.1 hsm.2⟩
      · rw [if_neg hc] at h ⊢
        exact ⟨nilT, nilT, nilT, by rw [h]; rfl, PatI.none w'⟩
theorem rparse_all (w : World) (s : ByteArray) (hs : s.size ≤ maxLen) : Calls Tryz.prog 30 #[.string s] w fun e w' => Kp w w' ∧ ∃ t0 t1 tl : Tv,
    e = .returned (.tuple #[.agg #[.string (prs s.data.toList).1, tvv t0, tvv t1, tvv tl], iv (((prs s.data.toList).2.2.2.2 : Nat) : Int)]) ∧ PatI w' t0.ao t1.ao tl.ao t0.n t1.n tl.n (prs s.data.toList).2.1 (prs s.data.toList).2.2.1 (prs s.data.toList).2.2.2.1 := by
  exact rparse_any w s hs
end Go.Proofs.YtkmejehhdjdlbaaGreatDoor

namespace Go.Proofs.YtkmejehhdjdlbaaGreatDoor
open Go.RowKit

set_option maxRecDepth 100000 in
set_option maxHeartbeats 8000000 in
theorem parses_true (w : World) (E : Nat → Addr) (m : Int) (hE : Env w E m) (s : ByteArray) (hs : s.size ≤ maxLen) :
    Calls Tryz.prog 6 #[.string s] w fun e w' => e = .returned (.bool true) ∧ Kp w w' := by
  have HE := Lib.hid hE
  have HF := Lib.hid (parse_all w E m hE s hs)
  have HR := Lib.hid (fun v => rparse_all v s hs)
  have hcd := prs_code s.data.toList
  generalize prs s.data.toList = x at HF HR hcd
  obtain ⟨nm, b0, b1, ls, c⟩ := x
  have Hcd := Lib.hid (show c = 0 ∨ c ∈ codes from hcd)
  clear hcd
  simp only at HF HR
  clear hE
  go_enter Tryz.func6, Tryz.ntmps6
  go_wp2_with fail
  (with_reducible refine HF.out.mono ?_)
  rintro e w1 ⟨hk1, t0, t1, tl, rfl, hP1⟩
  unfold tvv
  have hk2 := Kp.new w1 (.cells #[.string nm, .slice t0.ao t0.n t0.c, .slice t1.ao t1.n t1.c, .slice tl.ao tl.n tl.c] 26)
  have HF1 := Lib.hid (Four.new w1 (.string nm) (.slice t0.ao t0.n t0.c) (.slice t1.ao t1.n t1.c) (.slice tl.ao tl.n tl.c) 26)
  have HP1 := Lib.hid (hP1.kp hk2)
  have Hk2 := Lib.hid (Kp.trans hk1 hk2)
  clear hk1 hP1 hk2
  go_upto_region 2 with fail
  generalize w1.alloc (.cells #[.string nm, .slice t0.ao t0.n t0.c, .slice t1.ao t1.n t1.c, .slice tl.ao tl.n tl.c] 26) = w2 at *
  generalize w1.heap.size = p1 at *
  have HC := Lib.hid (HR.out w2)
  go_wp2_with fail
  (with_reducible refine HC.out.mono ?_)
  rintro e w3 ⟨hk3, u0, u1, ul, rfl, hP3⟩
  unfold tvv
  have hk4 := Kp.new w3 (.cells #[.string nm, .slice u0.ao u0.n u0.c, .slice u1.ao u1.n u1.c, .slice ul.ao ul.n ul.c] 26)
  have hF3 := Four.new w3 (.string nm) (.slice u0.ao u0.n u0.c) (.slice u1.ao u1.n u1.c) (.slice ul.ao ul.n ul.c) 26
  have HP3 := Lib.hid (hP3.kp hk4)
  have hk34 := Kp.trans hk3 hk4
  clear hk3 hP3 hk4 HC
  go_upto_region 3 with fail
  generalize w3.alloc (.cells #[.string nm, .slice u0.ao u0.n u0.c, .slice u1.ao u1.n u1.c, .slice ul.ao ul.n ul.c] 26) = w4 at *
  generalize w3.heap.size = p3 at *
  have hF1 := HF1.out.kp hk34
  have HPA := Lib.hid (HP1.out.kp hk34)
  have HK := Lib.hid (Kp.trans Hk2.out hk34)
  clear HF1 HP1 hk34
  obtain ⟨x0, x1, x2, x3, _, _, _, _⟩ := hF1
  obtain ⟨y0, y1, y2, y3, _, _, _, _⟩ := hF3
  have HS := Lib.hid (same_yes w4 nm t0.ao t1.ao tl.ao u0.ao u1.ao ul.ao t0.n t0.c t1.n t1.c tl.n tl.c u0.n u0.c u1.n u1.c ul.n ul.c b0 b1 ls HPA.out HP3.out)
  have HCo := Lib.hid (code_any w4 E m (HE.out.keep HK.out) c Hcd.out)
  go_wp2_with fail
  (with_reducible refine HCo.out.mono ?_)
  rintro e w4b ⟨rfl, rfl⟩
  go_wp2_with fail
  (with_reducible refine HS.out.mono ?_)
  rintro e w5 ⟨rfl, hk5⟩
  have HN := Lib.hid (law_known w5 E m (HE.out.keep (Kp.trans HK.out hk5)))
  have HK5 := Lib.hid (Kp.trans HK.out hk5)
  clear hk5 x0 x1 x2 x3 y0 y1 y2 y3
  go_wp2_with fail
  (with_reducible refine HN.out.mono ?_)
  rintro e w6 ⟨rfl, hk6⟩
  have HK6 := Lib.hid (Kp.trans HK5.out hk6)
  clear hk6
  go_wp2_with fail
  go_ret
  exact ⟨rfl, HK6.out⟩
end Go.Proofs.YtkmejehhdjdlbaaGreatDoor

namespace Go.Proofs.YtkmejehhdjdlbaaGreatDoor
open Go.RowKit

theorem fine_code {b0 b1 : List Int} {ls : List Ln} (h : checkL b0 b1 ls = 0) : Q.fineL b0 b1 ls := by
  have hc := code0 h
  exact ⟨okB_tok hc.1, okB_tok hc.2.1, fun l hl => by have := hc.2.2.2.2 l hl; exact ⟨this.1, this.2.1, this.2.2.2⟩⟩
theorem err_nil (E : Nat → Addr) (c : Nat) : ∀ w, (binOp .eql 30 (errV E c) .nilIface).run Tryz.prog w = .ok (.bool (decide (c = 0))) w := by
  intro w
  by_cases h : c = 0
  · subst h
    rw [errV_nil]
    kernel_rfl
  · rw [errV_ptr E h, decide_eq_false h]
    kernel_rfl
theorem err_guard (E : Nat → Addr) (c : Nat) : ∀ (o : BinOp) (x : Operand) (w : World), (eqGuard o 30 x (.const .nilIface) (errV E c) .nilIface).run Tryz.prog w = .ok () w := by
  intro o x w
  by_cases h : c = 0
  · subst h
    rw [errV_nil]
    cases o <;> cases x <;> rfl
  · rw [errV_ptr E h]
    cases o <;> rfl
/-- What is written is read again. -/
theorem prt_prs (nm : ByteArray) (b0 b1 : List Int) (ls : List Ln) (h : (prt nm.data.toList b0 b1 ls).2 = 0) : prs (prt nm.data.toList b0 b1 ls).1 = (nm, b0, b1, ls, 0) ∧ (prt nm.data.toList b0 b1 ls).1.length ≤ 4096 := by
  unfold prt at h ⊢
  by_cases hc : checkL b0 b1 ls = 0
  · rw [if_neg (fun q => q hc)] at h ⊢
    by_cases hn : 4096 < nm.data.toList.length ∨ Q.isName nm.data.toList = false
    · rw [if_pos hn] at h; cases h
    · rw [if_neg hn] at h ⊢
      by_cases hl : 4096 < (Q.printT nm.data.toList b0 b1 ls).length
      · rw [if_pos hl] at h; cases h
      · rw [if_neg hl]
        have hi : Q.isName nm.data.toList = true := by
          cases hq : Q.isName nm.data.toList with
          | true => rfl
          | false => exact absurd (.inr hq) hn
        refine ⟨?_, by simp only; omega⟩
        unfold prs
        simp only
        rw [if_neg hl, Q.read_print hi (fine_code hc)]
        simp only [Option.map_some]
        unfold chk
        simp only
        rw [if_pos hc, bs_data]
  · rw [if_pos hc] at h
    exact absurd h hc
/-- What is read is written again. -/
theorem prs_prt (t : Q.Bt) (h : (prs t).2.2.2.2 = 0) : prt (prs t).1.data.toList (prs t).2.1 (prs t).2.2.1 (prs t).2.2.2.1 = (t, 0) ∧ checkL (prs t).2.1 (prs t).2.2.1 (prs t).2.2.2.1 = 0 ∧ (prs t).1.data.toList.length ≤ 4096 := by
  unfold prs at h ⊢
  by_cases hl : 4096 < t.length
  · rw [if_pos hl] at h; cases h
  · rw [if_neg hl] at h ⊢
    cases hr : Q.readP t with
    | none => rw [hr] at h; cases h
    | some x =>
      obtain ⟨nm, S⟩ := x
      rw [hr] at h
      simp only [Option.map_some] at h ⊢
      unfold chk at h ⊢
      simp only at h ⊢
      by_cases hc : checkL S.b0 S.b1 S.ls = 0
      · rw [if_pos hc]
        obtain ⟨h1, h2, _⟩ := Q.print_read hr
        have hnl : nm.length ≤ 4096 := by
          have := congrArg List.length h1
          unfold Q.printT at this
          simp only [List.length_append] at this
          omega
        simp only [bs_list]
        refine ⟨?_, hc, hnl⟩
        unfold prt
        rw [if_neg (fun q => q hc), if_neg (by rw [h2]; simp; omega), h1, if_neg hl]
      · rw [if_neg hc] at h
        exact absurd h hc
set_option maxRecDepth 100000 in
set_option maxHeartbeats 8000000 in
theorem returns_true (w : World) (E : Nat → Addr) (m : Int) (hE : Env w E m) (nm : ByteArray) (a0 a1 al : Option Addr) (n0 c0 n1 c1 nl cl : Nat) (b0 b1 : List Int) (ls : List Ln) (hnm : nm.size ≤ 9223372036854775807) (hP : PatI w a0 a1 al n0 n1 nl b0 b1 ls) (s : ByteArray) (hs : s.size ≤ maxLen) :
    Calls Tryz.prog 10 #[patV nm a0 a1 al n0 c0 n1 c1 nl cl, .string s] w fun e w' => e = .returned (.bool true) ∧ Kp w w' := by
  have HE := Lib.hid hE
  have HPI := Lib.hid hP
  have hk1 := Kp.new w (.cells #[.string nm, .slice a0 n0 c0, .slice a1 n1 c1, .slice al nl cl] 26)
  have hF1 := Four.new w (.string nm) (.slice a0 n0 c0) (.slice a1 n1 c1) (.slice al nl cl) 26
  have HMu := Lib.hid (much_any _ nm a0 a1 al n0 c0 n1 c1 nl cl b0 b1 ls hnm (hP.kp hk1))
  have HF1 := Lib.hid hF1
  have Hk1 := Lib.hid hk1
  obtain ⟨y0, y1, y2, y3, z0, z1, z2, z3⟩ := hF1
  clear hE hP hk1 z0 z1 z2 z3
  go_enter Tryz.func10, Tryz.ntmps10
  go_upto_region 1 with fail
  obtain ⟨bx, hbx⟩ : ∃ bx, bx = w.heap.size := ⟨_, rfl⟩
  rw [← hbx] at HF1 y0 y1 y2 y3 ⊢
  generalize w.alloc (.cells #[.string nm, .slice a0 n0 c0, .slice a1 n1 c1, .slice al nl cl] 26) = w1 at *
  clear hbx
  go_wp2_with fail
  (with_reducible refine HMu.out.mono ?_)
  rintro e w2 ⟨b, rfl, hk2, hb⟩
  have Hk2 := Lib.hid (Kp.trans Hk1.out hk2)
  have HF2 := Lib.hid (HF1.out.kp hk2)
  clear y0 y1 y2 y3 hk2
  cases b with
  | true =>
    have HKn := Lib.hid (law_known w2 E m (HE.out.keep Hk2.out))
    clear hb
    go_wp2_with fail
    (with_reducible refine HKn.out.mono ?_)
    rintro e w3 ⟨rfl, hk3⟩
    have Hk3 := Lib.hid (Kp.trans Hk2.out hk3)
    clear hk3
    go_wp2_with fail
    go_ret
    exact ⟨rfl, Hk3.out⟩
  | false =>
    have Hs := Lib.hid (hb rfl)
    clear hb
    have HPr := Lib.hid (print_any w2 E m (HE.out.keep Hk2.out) nm a0 a1 al n0 c0 n1 c1 nl cl b0 b1 ls (HPI.out.kp Hk2.out) (by have := Hs.out.nm; omega))
    have hpp := prt_prs nm b0 b1 ls
    have hcd := prt_code nm.data.toList b0 b1 ls
    unfold PrintPost at HPr
    generalize prt nm.data.toList b0 b1 ls = r at HPr hpp hcd
    obtain ⟨tx, c⟩ := r
    simp only at HPr hpp hcd
    have Hpp := Lib.hid hpp
    obtain ⟨y0, y1, y2, y3, _, _, _, _⟩ := HF2.out
    clear hpp hcd
    go_wp2_with fail
    (with_reducible refine HPr.out.mono ?_)
    rintro e w3 ⟨rfl, hk3⟩
    have Hk3 := Lib.hid (Kp.trans Hk2.out hk3)
    have HF3 := Lib.hid (HF2.out.kp hk3)
    clear y0 y1 y2 y3 hk3
    have hqe := err_nil E c
    have hqg := err_guard E c
    go_upto_if 21 with fail
    clear hqe hqg
    go_cut [4, 6, 15, 17, 19, 20, 21] (fun v _ _ _ _ _ _ wc => v = .bool false ∧ Kp w wc)
    case first =>
      by_cases hc : c = 0
      · have hq := Hpp.out hc
        subst hc
        rw [errV_nil]
        rw [show decide ((0 : Nat) = 0) = true from rfl]
        have HPa := parse_all w3 E m (HE.out.keep Hk3.out) (bs tx) (by rw [bs_size]; have := hq.2; unfold maxLen; omega)
        rw [bs_list, hq.1] at HPa
        simp only [errV_nil] at HPa
        have Hlen := Lib.hid hq.2
        have HPa := Lib.hid HPa
        have hsz : (bs tx).size ≤ 4096 := by rw [bs_size]; exact hq.2
        clear hq
        go_wp2_with fail
        (with_reducible refine HPa.out.mono ?_)
        rintro e w4 ⟨hk4, t0, t1, tl, rfl, hP4⟩
        unfold tvv
        have hk5 := Kp.trans hk4 (Kp.new w4 (.cells #[.string nm, .slice t0.ao t0.n t0.c, .slice t1.ao t1.n t1.c, .slice tl.ao tl.n tl.c] 26))
        have hF5 := Four.new w4 (.string nm) (.slice t0.ao t0.n t0.c) (.slice t1.ao t1.n t1.c) (.slice tl.ao tl.n tl.c) 26
        have HP5 := Lib.hid (hP4.kp (Kp.new w4 (.cells #[.string nm, .slice t0.ao t0.n t0.c, .slice t1.ao t1.n t1.c, .slice tl.ao tl.n tl.c] 26)))
        have HFp := HF3.out.kp hk5
        have Hk5 := Lib.hid (Kp.trans Hk3.out hk5)
        clear hk4 hk5 hP4
        go_upto_region 6 with fail
        generalize w4.alloc (.cells #[.string nm, .slice t0.ao t0.n t0.c, .slice t1.ao t1.n t1.c, .slice tl.ao tl.n tl.c] 26) = w5 at *
        generalize w4.heap.size = p5 at *
        obtain ⟨x0, x1, x2, x3, _, _, _, _⟩ := HFp
        obtain ⟨y0, y1, y2, y3, _, _, _, _⟩ := hF5
        have HSm := Lib.hid (same_yes w5 nm a0 a1 al t0.ao t1.ao tl.ao n0 c0 n1 c1 nl cl t0.n t0.c t1.n t1.c tl.n tl.c b0 b1 ls (HPI.out.kp Hk5.out) HP5.out)
        go_wp2_with fail
        (with_reducible refine HSm.out.mono ?_)
        rintro e w6 ⟨rfl, hk6⟩
        have Hk6 := Lib.hid (Kp.trans Hk5.out hk6)
        clear x0 x1 x2 x3 y0 y1 y2 y3 hk6
        go_wp2_with fail
        go_meet
        case rel => exact ⟨rfl, Hk6.out⟩
      · rw [errV_ptr E hc, decide_eq_false hc]
        go_wp2_with fail
        go_meet
        case rel => exact ⟨rfl, Hk3.out⟩
    case rest =>
      obtain ⟨rfl, hkv⟩ := hcut
      rename World => wv
      have Hkv := Lib.hid hkv
      have HPa := Lib.hid (parse_all wv E m (HE.out.keep hkv) s hs)
      have hpr := prs_prt s.data.toList
      generalize prs s.data.toList = r at HPa hpr
      obtain ⟨un, d0, d1, us, d⟩ := r
      simp only at HPa hpr
      have Hpr := Lib.hid hpr
      clear hpr hkv
      by_cases hd : d = 0
      · have hq := Hpr.out hd
        subst hd
        rw [errV_nil] at HPa
        have Hq := Lib.hid hq
        have hun : un.size ≤ 8000000 := by rw [Lib.size_eq]; have := hq.2.2; omega
        clear hq
        go_wp2_with fail
        (with_reducible refine HPa.out.mono ?_)
        rintro e w4 ⟨hk4, u0, u1, ul, rfl, hP4⟩
        unfold tvv
        have hk5 := Kp.trans hk4 (Kp.new w4 (.cells #[.string un, .slice u0.ao u0.n u0.c, .slice u1.ao u1.n u1.c, .slice ul.ao ul.n ul.c] 26))
        have hF5 := Four.new w4 (.string un) (.slice u0.ao u0.n u0.c) (.slice u1.ao u1.n u1.c) (.slice ul.ao ul.n ul.c) 26
        have HP5 := Lib.hid (hP4.kp (Kp.new w4 (.cells #[.string un, .slice u0.ao u0.n u0.c, .slice u1.ao u1.n u1.c, .slice ul.ao ul.n ul.c] 26)))
        have HF5 := Lib.hid hF5
        have Hk5 := Lib.hid (Kp.trans Hkv.out hk5)
        clear hk4 hk5 hP4 hF5
        go_upto_region 9 with fail
        generalize w4.alloc (.cells #[.string un, .slice u0.ao u0.n u0.c, .slice u1.ao u1.n u1.c, .slice ul.ao ul.n ul.c] 26) = w5 at *
        generalize w4.heap.size = p5 at *
        have HPr2 := print_any w5 E m (HE.out.keep Hk5.out) un u0.ao u1.ao ul.ao u0.n u0.c u1.n u1.c ul.n ul.c d0 d1 us HP5.out hun
        unfold PrintPost at HPr2
        rw [Hq.out.1] at HPr2
        simp only [errV_nil] at HPr2
        rw [bs_data] at HPr2
        have HPr2 := Lib.hid HPr2
        obtain ⟨y0, y1, y2, y3, _, _, _, _⟩ := HF5.out
        go_wp2_with fail
        (with_reducible refine HPr2.out.mono ?_)
        rintro e w6 ⟨rfl, hk6⟩
        have HF6 := HF5.out.kp hk6
        have Hk6 := Lib.hid (Kp.trans Hk5.out hk6)
        have HP6 := Lib.hid (HP5.out.kp hk6)
        have HCk := check_any w6 E (HE.out.keep Hk6.out).errs un u0.ao u1.ao ul.ao u0.n u0.c u1.n u1.c ul.n ul.c d0 d1 us HP6.out.i0 HP6.out.i1 HP6.out.il
        rw [Hq.out.2.1, errV_nil] at HCk
        have HCk := Lib.hid HCk
        clear y0 y1 y2 y3 hk6
        obtain ⟨y0, y1, y2, y3, _, _, _, _⟩ := HF6
        go_wp2_with fail
        (with_reducible refine HCk.out.mono ?_)
        rintro e w7 ⟨rfl, hk7⟩
        have Hk7 := Lib.hid (Kp.trans Hk6.out hk7)
        have HN := Lib.hid (law_known w7 E m (HE.out.keep Hk7.out))
        clear y0 y1 y2 y3 hk7
        go_wp2_with fail
        (with_reducible refine HN.out.mono ?_)
        rintro e w8 ⟨rfl, hk8⟩
        have Hk8 := Lib.hid (Kp.trans Hk7.out hk8)
        clear hk8
        go_wp2_with fail
        go_ret
        exact ⟨rfl, Hk8.out⟩
      · rw [errV_ptr E hd] at HPa
        go_wp2_with fail
        (with_reducible refine HPa.out.mono ?_)
        rintro e w4 ⟨hk4, u0, u1, ul, rfl, hP4⟩
        unfold tvv
        have Hk5 := Lib.hid (Kp.trans Hkv.out (Kp.trans hk4 (Kp.new w4 (.cells #[.string un, .slice u0.ao u0.n u0.c, .slice u1.ao u1.n u1.c, .slice ul.ao ul.n ul.c] 26))))
        have HN := Lib.hid (law_known _ E m (HE.out.keep Hk5.out))
        clear hk4 hP4
        go_wp2_with fail
        (with_reducible refine HN.out.mono ?_)
        rintro e w8 ⟨rfl, hk8⟩
        have Hk8 := Lib.hid (Kp.trans Hk5.out hk8)
        clear hk8
        go_wp2_with fail
        go_ret
        exact ⟨rfl, Hk8.out⟩
end Go.Proofs.YtkmejehhdjdlbaaGreatDoor
