/- PlanBack: the walk. Conditions: the pattern and the moves lie there (Is, Lns, Mvs), the errors too (Errs). -/
import Derived.Test.YtpemfmjplejdiaaDoorRollP
import Derived.Test.YtpemfmjplejdiaaDoorGa3
import Derived.Test.YtpemfmjplejdiaaDoorAwake
namespace Go.Proofs.YtpemfmjplejdiaaDoor
open Go.RowKit

theorem errV_nz (E : Nat → Addr) {c : Nat} (h : c ≠ 0) : errV E c = .iface 107 (.pointer (some (E c))) := by unfold errV; rw [if_neg h]
def totL (ls : List Ln) : Nat := (ls.map (·.2.length)).sum
theorem linesOk_tot {ls : List Ln} : ∀ {prev : Option Int} {n : Nat}, linesOk prev n ls = true → n ≤ 24 → n + totL ls ≤ 24 := by
  induction ls with
  | nil => intro _ n _ h; simpa [totL] using h
  | cons l r ih =>
    intro prev n hl _
    simp only [linesOk, Bool.and_eq_true, decide_eq_true_eq] at hl
    obtain ⟨⟨⟨h1, h2⟩, h3⟩, h4⟩ := hl
    have := ih h4 h3
    simp only [totL, List.map_cons, List.sum_cons] at this ⊢
    omega
theorem flat_len {α β : Type} (f : α → List β) (k : Nat) : ∀ l : List α, (∀ x ∈ l, (f x).length ≤ k) → (l.flatMap f).length ≤ k * l.length
  | [], _ => by simp
  | x :: r, h => by
    have h1 := flat_len f k r (fun y hy => h y (by simp [hy]))
    have h2 := h x (by simp)
    rw [List.flatMap_cons, List.length_append, List.length_cons, Nat.mul_add]
    omega
theorem line_len (ini psk : Bool) : ∀ ls : List Ln, (ls.flatMap (lineM ini psk)).length ≤ 2 * ls.length + 3 * totL ls
  | [] => by simp
  | l :: r => by
    have h1 := line_len ini psk r
    have h2 := flat_len (tokM ini (l.1 == sideOf ini) psk) 3 l.2 (fun t _ => by
      have a := movesL_len ini t (l.1 == sideOf ini)
      have b := mixM_len (l.1 == sideOf ini) psk t
      unfold tokM; rw [List.length_append]; omega)
    rw [List.flatMap_cons, List.length_append]
    simp only [totL, List.map_cons, List.sum_cons, List.length_cons, lineM, List.length_append, List.length_nil] at h1 h2 ⊢
    omega
theorem unrollL_len (ini : Bool) {b0 b1 : List Int} {ls : List Ln} (h : checkL b0 b1 ls = 0) : (unrollL ini b0 b1 ls).length ≤ 1000 := by
  have hs := checkL_ok h
  obtain ⟨g0, g1, g2, _⟩ := shapedL_len hs
  have ht : totL ls ≤ 24 := by
    simp only [shapedL, Bool.and_eq_true] at hs
    have := linesOk_tot hs.2 (by omega); omega
  have e0 := flat_len (befM (!ini) (pskL ls)) 2 b0 (fun t _ => befM_len _ _ t)
  have e1 := flat_len (befM ini (pskL ls)) 2 b1 (fun t _ => befM_len _ _ t)
  have e2 := line_len ini (pskL ls) ls
  have e3 : (headM ini b0 b1 ls).length ≤ 3 := by
    have hi : ∀ (b : Bool) (x : Mv), (if b = true then [x] else []).length ≤ 1 := fun b x => by cases b <;> simp
    unfold headM
    rw [List.length_append, List.length_append]
    have h1 := hi (hasL ls (sideOf ini) 2 || inL (if ini then b0 else b1) 2) ⟨1, 2, 0⟩
    have h2 := hi (inL (if ini then b0 else b1) 1) ⟨1, 1, 0⟩
    simp only [List.length_cons, List.length_nil]
    omega
  unfold unrollL
  simp only [List.length_append, List.length_cons, List.length_nil]
  omega
theorem sameL_refl (b0 b1 : List Int) (ls : List Ln) : sameL b0 b1 ls b0 b1 ls = true := by unfold sameL; simp
theorem PatO.lnsK {w : World} {B : Nat} {t0 t1 tl : Tv} {ts : List Tv} {b0 b1 : List Int} {ls : List Ln} (h : PatO w B t0 t1 tl ts b0 b1 ls) (hc : checkL b0 b1 ls = 0) : Lns w tl.ao tl.n ls := by
  obtain ⟨_, _, h3, h4⟩ := shapedL_len (checkL_ok hc)
  refine h.lns (by omega) (fun l hl => ?_)
  obtain ⟨j, hj, rfl⟩ := List.getElem_of_mem hl
  have := h4 j hj; omega

set_option maxRecDepth 100000 in
set_option maxHeartbeats 8000000 in
theorem backs_any (w : World) (E : Nat → Addr) (hE : Errs w E) (ini : Bool) (nm : ByteArray) (a0 a1 al : Option Addr) (n0 c0 n1 c1 nl cl : Nat) (b0 b1 : List Int) (ls : List Ln) (lo : Option Addr) (n c : Nat) (ms : List Mv)
    (hnm : nm.size ≤ 9223372036854775807) (h0 : Is w a0 n0 b0) (h1 : Is w a1 n1 b1) (hl : Lns w al nl ls) (hms : Mvs w lo n ms) :
    Calls Tryd.prog 7 #[.agg #[.string nm, .slice a0 n0 c0, .slice a1 n1 c1, .slice al nl cl], .bool ini, .slice lo n c] w fun e w' => e = .returned (.bool true) ∧ Kp w w' := by
  have hkb := Kp.new w (.cells #[.string nm, .slice a0 n0 c0, .slice a1 n1 c1, .slice al nl cl] 26)
  have hB := Bx.new w nm a0 a1 al n0 c0 n1 c1 nl cl
  obtain ⟨wb, hwb⟩ : ∃ wb, wb = w.alloc (.cells #[.string nm, .slice a0 n0 c0, .slice a1 n1 c1, .slice al nl cl] 26) := ⟨_, rfl⟩
  rw [← hwb] at hkb hB
  obtain ⟨bx, hbx⟩ : ∃ bx, bx = w.heap.size := ⟨_, rfl⟩
  rw [← hbx] at hB
  have hEb := hkb.errs hE
  replace h0 := hkb.is h0
  replace h1 := hkb.is h1
  replace hl := hkb.lns hl
  replace hms := hkb.mvs hms
  clear hE
  have hnn := hms.2.1
  unfold maxLen at hnn
  have HL := Lib.hid (fun w' (k : Kp wb w') => large_any w' nm a0 a1 al n0 c0 n1 c1 nl cl b0 b1 ls hnm (k.is h0) (k.is h1) (k.lns hl))
  have HA := Lib.hid (fun w' (k : Kp wb w') => awake_any w' E (k.errs hEb))
  have HU := Lib.hid (fun w' (k : Kp wb w') => unrollR_any ini w' E (k.errs hEb) nm a0 a1 al n0 c0 n1 c1 nl cl b0 b1 ls (k.is h0) (k.is h1) (k.lns hl))
  have HC := Lib.hid (fun w' (k : Kp wb w') => check_any w' E (k.errs hEb) nm a0 a1 al n0 c0 n1 c1 nl cl b0 b1 ls (k.is h0) (k.is h1) (k.lns hl))
  have HR := Lib.hid (fun w' (k : Kp wb w') (hn : n ≤ 1000) => roll_any w' E (k.errs hEb) ini lo n c ms (k.mvs hms) hn)
  have HI := Lib.hid (And.intro hEb (And.intro h0 (And.intro h1 (And.intro hl hms))))
  have Hkb := Lib.hid hkb
  have HB := Lib.hid hB
  obtain ⟨q0, q1, q2, q3⟩ := hB
  clear h0 h1 hl hms hEb hkb
  go_enter Tryd.func7, Tryd.ntmps7
  go_upto_region 1 with fail
  rw [← hwb, ← hbx]
  clear hwb hbx
  go_wp2_with fail
  (with_reducible refine (HL.out wb (Kp.refl _)).mono ?_)
  rintro e w1 ⟨bl, rfl, hk1⟩
  clear q0 q1 q2 q3
  cases bl with
  | true =>
    go_wp2_with fail
    (with_reducible refine (HA.out w1 hk1).mono ?_)
    rintro e w2 ⟨rfl, hk2⟩
    go_wp2_with fail
    go_ret
    exact ⟨rfl, Kp.trans Hkb.out (Kp.trans hk1 hk2)⟩
  | false =>
    by_cases hn : (1000 : Int) < (n : Int)
    · go_wp2_with fail
      (with_reducible refine (HA.out w1 hk1).mono ?_)
      rintro e w2 ⟨rfl, hk2⟩
      go_wp2_with fail
      go_ret
      exact ⟨rfl, Kp.trans Hkb.out (Kp.trans hk1 hk2)⟩
    · have hn' : n ≤ 1000 := by omega
      obtain ⟨q0, q1, q2, q3⟩ := HB.out.kp hk1
      go_wp2_with fail
      (with_reducible refine (HU.out w1 hk1).mono ?_)
      rintro e w2 ⟨hk12, h⟩
      have hk2 := Kp.trans hk1 hk12
      clear q0 q1 q2 q3
      have hc0 : checkL b0 b1 ls = 0 ∨ checkL b0 b1 ls ≠ 0 := Decidable.em _
      have hcut : ∃ bo bn bc xe, e = .returned (.tuple #[.slice bo bn bc, xe]) ∧ ((checkL b0 b1 ls = 0 ∧ xe = .nilIface ∧ MvO w2 w1.heap.size bo bn bc (unrollL ini b0 b1 ls)) ∨ (checkL b0 b1 ls ≠ 0 ∧ xe = .iface 107 (.pointer (some (E (checkL b0 b1 ls)))))) := by
        rcases hc0 with hc | hc
        · rw [if_pos hc] at h
          obtain ⟨ao, m, cap, rfl, hM⟩ := h
          exact ⟨ao, m, cap, _, rfl, .inl ⟨hc, rfl, hM⟩⟩
        · rw [if_neg hc, errV_nz E hc] at h
          exact ⟨none, 0, 0, _, h, .inr ⟨hc, rfl⟩⟩
      clear h hc0
      obtain ⟨bo, bn, bc, xe, rfl, hx⟩ := hcut
      have kd : Kp w2 w2.drew := ⟨rfl, rfl, rfl, Nat.le_refl _, fun _ _ => rfl⟩
      obtain ⟨q0, q1, q2, q3⟩ := HB.out.kp (Kp.trans hk2 kd)
      have hCd := HC.out w2.drew (Kp.trans hk2 kd)
      have HCd := Lib.hid hCd
      clear hCd
      go_upto_region 4 with fail
      rcases hx with ⟨hc, rfl, hM⟩ | ⟨hc, rfl⟩
      · have HCz := Lib.hid (show Calls Tryd.prog 21 _ w2.drew (fun e w' => e = .returned .nilIface ∧ Kp w2.drew w') from by have := HCd.out; rw [hc] at this; exact this)
        go_region_with (go_at_call 21; refine HCz.out.mono ?_; rintro e w3 ⟨rfl, hk3⟩)
        have hk03 := Kp.trans (Kp.trans hk2 kd) hk3
        have hMk := hM.keep (Kp.trans kd hk3)
        have hbn : bn ≤ 1000 := by rw [← hM.2]; exact unrollL_len ini hc
        have HRo := Lib.hid (roll_any w3 E (hk03.errs HI.out.1) ini bo bn bc _ hMk.mvs hbn)
        clear q0 q1 q2 q3 hMk hM kd
        go_wp2_with fail
        (with_reducible refine HRo.out.mono ?_)
        rintro e w4 ⟨hk4, h⟩
        rw [rolledL_unroll ini hc] at h
        obtain ⟨t0, t1, tl, ts, rfl, hp⟩ := h
        obtain ⟨ta, tn, tc⟩ := t0
        obtain ⟨ua, un, uc⟩ := t1
        obtain ⟨va, vn, vc⟩ := tl
        unfold tvv
        simp only at hp ⊢
        have hk04 := Kp.trans hk03 hk4
        have hkq := Kp.new w4 (.cells #[.string ⟨#[]⟩, .slice ta tn tc, .slice ua un uc, .slice va vn vc] 26)
        have hBq := Bx.new w4 ⟨#[]⟩ ta ua va tn tc un uc vn vc
        have hk0q := Kp.trans hk04 hkq
        have HSm := Lib.hid (same_any _ ⟨#[]⟩ nm ta ua va a0 a1 al tn tc un uc vn vc n0 c0 n1 c1 nl cl b0 b1 ls b0 b1 ls (hkq.is hp.is0) (hkq.is hp.is1) (hkq.lns (hp.lnsK hc)) (hk0q.is HI.out.2.1) (hk0q.is HI.out.2.2.1) (hk0q.lns HI.out.2.2.2.1))
        rw [sameL_refl] at HSm
        clear hp hc HRo
        go_upto_region 8 with fail
        generalize w4.alloc (.cells #[.string ⟨#[]⟩, .slice ta tn tc, .slice ua un uc, .slice va vn vc] 26) = wq at *
        obtain ⟨bq, hbq⟩ : ∃ bq, bq = w4.heap.size := ⟨_, rfl⟩
        rw [← hbq] at hBq ⊢
        obtain ⟨z0, z1, z2, z3⟩ := hBq
        obtain ⟨q0, q1, q2, q3⟩ := HB.out.kp hk0q
        clear hbq
        go_wp2_with fail
        (with_reducible refine HSm.out.mono ?_)
        rintro e wr ⟨rfl, hkr⟩
        replace z0 := hkr.cell z0
        have hk0r := Kp.trans hk0q hkr
        clear z1 z2 z3 q0 q1 q2 q3
        go_upto_region 10 with fail
        clear z0
        go_wp2_with fail
        (with_reducible refine (HR.out wr hk0r hn').mono ?_)
        rintro e w5 ⟨hk5, h⟩
        have hk05 := Kp.trans hk0r hk5
        cases hr : rolledL ini ms with
        | none =>
          rw [hr] at h
          have h : e = .returned (.tuple #[.agg #[.string ⟨#[]⟩, .slice none 0 0, .slice none 0 0, .slice none 0 0], .iface 107 (.pointer (some (E 9)))]) := by rw [← errV_nz E (show (9 : Nat) ≠ 0 by decide)]; exact h
          subst h
          have hkq := Kp.new w5 (.cells #[.string ⟨#[]⟩, .slice none 0 0, .slice none 0 0, .slice none 0 0] 26)
          clear hr
          go_wp2_with fail
          (with_reducible refine (HA.out _ (Kp.trans hk05 hkq)).mono ?_)
          rintro e w7 ⟨rfl, hk7⟩
          go_wp2_with fail
          go_ret
          exact ⟨rfl, Kp.trans Hkb.out (Kp.trans (Kp.trans hk05 hkq) hk7)⟩
        | some p =>
          rw [hr] at h
          obtain ⟨t0, t1, tl, ts, rfl, hp⟩ := h
          obtain ⟨hcp, hup⟩ := rolledL_some hr
          obtain ⟨⟨d0, d1⟩, ds⟩ := p
          obtain ⟨ta, tn, tc⟩ := t0
          obtain ⟨ua, un, uc⟩ := t1
          obtain ⟨va, vn, vc⟩ := tl
          unfold tvv
          simp only at hcp hup hp ⊢
          have hkq := Kp.new w5 (.cells #[.string ⟨#[]⟩, .slice ta tn tc, .slice ua un uc, .slice va vn vc] 26)
          have hBq := Bx.new w5 ⟨#[]⟩ ta ua va tn tc un uc vn vc
          have hlq := hkq.lns (hp.lnsK hcp)
          have h0q := hkq.is hp.is0
          have h1q := hkq.is hp.is1
          have hk06 := Kp.trans hk05 hkq
          have HUq := Lib.hid (unrollR_any ini _ E (hk06.errs HI.out.1) ⟨#[]⟩ ta ua va tn tc un uc vn vc d0 d1 ds h0q h1q hlq)
          clear hlq h0q h1q hr
          go_upto_region 11 with fail
          generalize w5.alloc (.cells #[.string ⟨#[]⟩, .slice ta tn tc, .slice ua un uc, .slice va vn vc] 26) = w6 at *
          obtain ⟨bq, hbq⟩ : ∃ bq, bq = w5.heap.size := ⟨_, rfl⟩
          rw [← hbq] at hBq ⊢
          obtain ⟨z0, z1, z2, z3⟩ := hBq
          clear hbq
          go_wp2_with fail
          (with_reducible refine HUq.out.mono ?_)
          rintro e w7 ⟨hk67, h⟩
          rw [if_pos hcp] at h
          obtain ⟨co, cn, cc, rfl, hMc⟩ := h
          have hk07 := Kp.trans hk06 hk67
          rw [hup] at hMc
          have HMm := Lib.hid (moves2_any w7 co lo cn n cc c ms ms hMc.mvs (hk07.mvs HI.out.2.2.2.2))
          clear z0 z1 z2 z3 hMc hup
          go_wp2_with fail
          (with_reducible refine HMm.out.mono ?_)
          rintro e w8 ⟨rfl, hk8⟩
          rw [beq_self_eq_true]
          go_wp2_with fail
          (with_reducible refine (HA.out w8 (Kp.trans hk07 hk8)).mono ?_)
          rintro e w9 ⟨rfl, hk9⟩
          go_wp2_with fail
          go_ret
          exact ⟨rfl, Kp.trans Hkb.out (Kp.trans (Kp.trans hk07 hk8) hk9)⟩
      · have HCz := Lib.hid (show Calls Tryd.prog 21 _ w2.drew (fun e w' => e = .returned (.iface 107 (.pointer (some (E (checkL b0 b1 ls))))) ∧ Kp w2.drew w') from by have := HCd.out; rw [errV_nz E hc] at this; exact this)
        generalize checkL b0 b1 ls = cc at *
        go_region_with (go_at_call 21; refine HCz.out.mono ?_; rintro e w3 ⟨rfl, hk3⟩)
        have hk03 := Kp.trans (Kp.trans hk2 kd) hk3
        clear q0 q1 q2 q3 kd HCz
        go_wp2_with fail
        (with_reducible refine (HR.out w3 hk03 hn').mono ?_)
        rintro e w5 ⟨hk5, h⟩
        have hk05 := Kp.trans hk03 hk5
        cases hr : rolledL ini ms with
        | none =>
          rw [hr] at h
          have h : e = .returned (.tuple #[.agg #[.string ⟨#[]⟩, .slice none 0 0, .slice none 0 0, .slice none 0 0], .iface 107 (.pointer (some (E 9)))]) := by rw [← errV_nz E (show (9 : Nat) ≠ 0 by decide)]; exact h
          subst h
          have hkq := Kp.new w5 (.cells #[.string ⟨#[]⟩, .slice none 0 0, .slice none 0 0, .slice none 0 0] 26)
          clear hr
          go_wp2_with fail
          (with_reducible refine (HA.out _ (Kp.trans hk05 hkq)).mono ?_)
          rintro e w7 ⟨rfl, hk7⟩
          go_wp2_with fail
          go_ret
          exact ⟨rfl, Kp.trans Hkb.out (Kp.trans (Kp.trans hk05 hkq) hk7)⟩
        | some p =>
          rw [hr] at h
          obtain ⟨t0, t1, tl, ts, rfl, hp⟩ := h
          obtain ⟨hcp, hup⟩ := rolledL_some hr
          obtain ⟨⟨d0, d1⟩, ds⟩ := p
          obtain ⟨ta, tn, tc⟩ := t0
          obtain ⟨ua, un, uc⟩ := t1
          obtain ⟨va, vn, vc⟩ := tl
          unfold tvv
          simp only at hcp hup hp ⊢
          have hkq := Kp.new w5 (.cells #[.string ⟨#[]⟩, .slice ta tn tc, .slice ua un uc, .slice va vn vc] 26)
          have hBq := Bx.new w5 ⟨#[]⟩ ta ua va tn tc un uc vn vc
          have hlq := hkq.lns (hp.lnsK hcp)
          have h0q := hkq.is hp.is0
          have h1q := hkq.is hp.is1
          have hk06 := Kp.trans hk05 hkq
          have HUq := Lib.hid (unrollR_any ini _ E (hk06.errs HI.out.1) ⟨#[]⟩ ta ua va tn tc un uc vn vc d0 d1 ds h0q h1q hlq)
          clear hlq h0q h1q hr
          go_upto_region 11 with fail
          generalize w5.alloc (.cells #[.string ⟨#[]⟩, .slice ta tn tc, .slice ua un uc, .slice va vn vc] 26) = w6 at *
          obtain ⟨bq, hbq⟩ : ∃ bq, bq = w5.heap.size := ⟨_, rfl⟩
          rw [← hbq] at hBq ⊢
          obtain ⟨z0, z1, z2, z3⟩ := hBq
          clear hbq
          go_wp2_with fail
          (with_reducible refine HUq.out.mono ?_)
          rintro e w7 ⟨hk67, h⟩
          rw [if_pos hcp] at h
          obtain ⟨co, cn, cc, rfl, hMc⟩ := h
          have hk07 := Kp.trans hk06 hk67
          rw [hup] at hMc
          have HMm := Lib.hid (moves2_any w7 co lo cn n cc c ms ms hMc.mvs (hk07.mvs HI.out.2.2.2.2))
          clear z0 z1 z2 z3 hMc hup
          go_wp2_with fail
          (with_reducible refine HMm.out.mono ?_)
          rintro e w8 ⟨rfl, hk8⟩
          rw [beq_self_eq_true]
          go_wp2_with fail
          (with_reducible refine (HA.out w8 (Kp.trans hk07 hk8)).mono ?_)
          rintro e w9 ⟨rfl, hk9⟩
          go_wp2_with fail
          go_ret
          exact ⟨rfl, Kp.trans Hkb.out (Kp.trans (Kp.trans hk07 hk8) hk9)⟩
end Go.Proofs.YtpemfmjplejdiaaDoor
