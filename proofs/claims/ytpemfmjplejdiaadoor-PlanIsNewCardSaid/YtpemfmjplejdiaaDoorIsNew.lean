/- PlanIsNew: the walk. Conditions: the pattern lies there (Is, Lns), the errors too (ErrsX). -/
import Derived.Test.YtpemfmjplejdiaaDoorIsA
import Derived.Test.YtpemfmjplejdiaaDoorBacks
import Derived.Test.YtpemfmjplejdiaaDoorGa2
import Derived.Test.YtpemfmjplejdiaaDoorGa3
import Derived.Test.YtpemfmjplejdiaaDoorAwake
namespace Go.Proofs.YtpemfmjplejdiaaDoor
open Go.RowKit

theorem offL_in (S : Nat → Bool) (f t : Int) (l : Bool) : offL S f t l = 0 ∨ offL S f t l = 10 ∨ offL S f t l = 11 ∨ offL S f t l = 12 := by
  unfold offL
  repeat' split
  all_goals simp
theorem runToks_in (f : Int) : ∀ (ts : List Int) (S : Nat → Bool), (runToks S f ts).1 = 0 ∨ (runToks S f ts).1 = 10 ∨ (runToks S f ts).1 = 11 ∨ (runToks S f ts).1 = 12
  | [], _ => .inl rfl
  | t :: r, S => by
    unfold runToks
    split
    · exact runToks_in f r _
    · exact offL_in S f t _
theorem runLs_in : ∀ (ls : List Ln) (S : Nat → Bool), (runLs S ls).1 = 0 ∨ (runLs S ls).1 = 10 ∨ (runLs S ls).1 = 11 ∨ (runLs S ls).1 = 12
  | [], _ => .inl rfl
  | l :: r, S => by
    unfold runLs
    split
    · exact runLs_in r _
    · exact runToks_in _ _ _
theorem checkL_in (b0 b1 : List Int) (ls : List Ln) : checkL b0 b1 ls = 0 ∨ checkL b0 b1 ls = 9 ∨ checkL b0 b1 ls = 10 ∨ checkL b0 b1 ls = 11 ∨ checkL b0 b1 ls = 12 := by
  unfold checkL
  split
  · split
    · unfold endL; split <;> simp
    · rcases runLs_in ls (begunL b0 b1) with h | h | h | h <;> rw [h] <;> simp
  · simp

set_option maxRecDepth 100000 in
set_option maxHeartbeats 8000000 in
theorem isnew_any (w : World) (E : Nat → Addr) (hE : ErrsX w E) (ini : Bool) (nm : ByteArray) (a0 a1 al : Option Addr) (n0 c0 n1 c1 nl cl : Nat) (b0 b1 : List Int) (ls : List Ln)
    (hnm : nm.size ≤ 9223372036854775807) (h0 : Is w a0 n0 b0) (h1 : Is w a1 n1 b1) (hl : Lns w al nl ls) :
    Calls Tryd.prog 8 #[.agg #[.string nm, .slice a0 n0 c0, .slice a1 n1 c1, .slice al nl cl], .bool ini] w fun e w' => e = .returned (.bool true) ∧ Kp w w' := by
  have hkb := Kp.new w (.cells #[.string nm, .slice a0 n0 c0, .slice a1 n1 c1, .slice al nl cl] 26)
  have hB := Bx.new w nm a0 a1 al n0 c0 n1 c1 nl cl
  obtain ⟨wb, hwb⟩ : ∃ wb, wb = w.alloc (.cells #[.string nm, .slice a0 n0 c0, .slice a1 n1 c1, .slice al nl cl] 26) := ⟨_, rfl⟩
  rw [← hwb] at hkb hB
  obtain ⟨bx, hbx⟩ : ∃ bx, bx = w.heap.size := ⟨_, rfl⟩
  rw [← hbx] at hB
  have hEb := hE.keep hkb
  replace h0 := hkb.is h0
  replace h1 := hkb.is h1
  replace hl := hkb.lns hl
  clear hE
  have HL := Lib.hid (fun w' (k : Kp wb w') => large_any w' nm a0 a1 al n0 c0 n1 c1 nl cl b0 b1 ls hnm (k.is h0) (k.is h1) (k.lns hl))
  have HA := Lib.hid (fun w' (k : Kp wb w') => awake_any w' E (hEb.keep k).errs)
  have HU := Lib.hid (fun w' (k : Kp wb w') => unrollR_any ini w' E (hEb.keep k).errs nm a0 a1 al n0 c0 n1 c1 nl cl b0 b1 ls (k.is h0) (k.is h1) (k.lns hl))
  have HC := Lib.hid (fun w' (k : Kp wb w') => code_any w' E (hEb.keep k) (checkL b0 b1 ls) (checkL_in b0 b1 ls))
  have HI := Lib.hid (And.intro hEb (And.intro h0 (And.intro h1 hl)))
  have Hkb := Lib.hid hkb
  have HB := Lib.hid hB
  have Hbx := Lib.hid hB.lt
  obtain ⟨q0, q1, q2, q3⟩ := hB
  clear h0 h1 hl hEb hkb
  go_enter Tryd.func8, Tryd.ntmps8
  go_upto_region 1 with fail
  rw [← hwb, ← hbx]
  clear hwb hbx
  go_wp2_with fail
  (with_reducible refine (HL.out wb (Kp.refl _)).mono ?_)
  rintro e w1 ⟨bl, rfl, hk1⟩
  clear q0 q1 q2 q3
  cases bl with
  | true =>
    go_wp2_with fail
    (with_reducible refine (HA.out w1 hk1).mono ?_)
    rintro e w2 ⟨rfl, hk2⟩
    go_wp2_with fail
    go_ret
    exact ⟨rfl, Kp.trans Hkb.out (Kp.trans hk1 hk2)⟩
  | false =>
    obtain ⟨q0, q1, q2, q3⟩ := HB.out.kp hk1
    go_wp2_with fail
    (with_reducible refine (HU.out w1 hk1).mono ?_)
    rintro e w2 ⟨hk12, h⟩
    have hk2 := Kp.trans hk1 hk12
    by_cases hc : checkL b0 b1 ls = 0
    · rw [if_pos hc] at h
      obtain ⟨ao, n, cap, rfl, hMa⟩ := h
      replace q0 := hk12.cell q0
      replace q1 := hk12.cell q1
      replace q2 := hk12.cell q2
      replace q3 := hk12.cell q3
      go_upto_region 4 with fail
      go_wp2_with fail
      (with_reducible refine (HU.out w2 hk2).mono ?_)
      rintro e w3 ⟨hk23, h⟩
      rw [if_pos hc] at h
      obtain ⟨bo, bn, bcap, rfl, hMb⟩ := h
      have hk3 := Kp.trans hk2 hk23
      have hMa3 := hMa.keep hk23
      have hbn : bn ≤ 1000 := by rw [← hMb.2]; exact unrollL_len ini hc
      have HR := Lib.hid (fun w' (k : Kp w3 w') => roll_any w' E (HI.out.1.keep (Kp.trans hk3 k)).errs ini bo bn bcap _ (k.mvs hMb.mvs) hbn)
      have HMa := Lib.hid hMa3
      have HMb := Lib.hid hMb
      have HMa2 := Lib.hid hMa
      have hs12 := hk12.size
      have Hk3 := Lib.hid (And.intro hk2 (And.intro hk23 hk3))
      have hUl := unrollL_len ini hc
      have Hc := Lib.hid hc
      have hk1s := Lib.hid hk1.size
      clear q0 q1 q2 q3 hMa hMb hMa3 hk1 hk12 hk2 hk23 hk3 hc
      go_wp2_with fail
      (with_reducible refine (HR.out w3 (Kp.refl _)).mono ?_)
      rintro e w4 ⟨hk4, h⟩
      rw [rolledL_unroll ini Hc.out] at h
      obtain ⟨t0, t1, tl, ts, rfl, hp⟩ := h
      have HP := Lib.hid hp
      have hkq := Kp.new w4 (.cells #[.string ⟨#[]⟩, tvv t0, tvv t1, tvv tl] 26)
      have hBq := Bx.new w4 ⟨#[]⟩ t0.ao t1.ao tl.ao t0.n t0.c t1.n t1.c tl.n tl.c
      unfold tvv at hkq ⊢
      clear hp
      go_upto_region 8 with fail
      generalize w4.alloc (.cells #[.string ⟨#[]⟩, .slice t0.ao t0.n t0.c, .slice t1.ao t1.n t1.c, .slice tl.ao tl.n tl.c] 26) = w5 at *
      obtain ⟨bq, hbq⟩ : ∃ bq, bq = w4.heap.size := ⟨_, rfl⟩
      rw [← hbq] at hBq ⊢
      have hbq4 : w4.heap.size ≤ bq := by omega
      clear hbq
      have Hk5 := Lib.hid (And.intro hk4 (And.intro hkq (Kp.trans hk4 hkq)))
      clear hk4 hkq
      go_wp2_with fail
      (with_reducible refine (HR.out w5 Hk5.out.2.2).mono ?_)
      rintro e w6 ⟨hk6, h⟩
      rw [rolledL_unroll ini Hc.out] at h
      obtain ⟨s0, s1, sl, ss, rfl, hp⟩ := h
      have HQ := Lib.hid hp
      have hkq := Kp.new w6 (.cells #[.string ⟨#[]⟩, tvv s0, tvv s1, tvv sl] 26)
      have hBy := Bx.new w6 ⟨#[]⟩ s0.ao s1.ao sl.ao s0.n s0.c s1.n s1.c sl.n sl.c
      unfold tvv at hkq ⊢
      clear hp
      go_upto_region 9 with fail
      generalize w6.alloc (.cells #[.string ⟨#[]⟩, .slice s0.ao s0.n s0.c, .slice s1.ao s1.n s1.c, .slice sl.ao sl.n sl.c] 26) = w7 at *
      obtain ⟨b_y, hb_y⟩ : ∃ b_y, b_y = w6.heap.size := ⟨_, rfl⟩
      rw [← hb_y] at hBy ⊢
      have hb_y6 : w6.heap.size ≤ b_y := by omega
      clear hb_y
      have hk57 := Kp.trans hk6 hkq
      have hk47 := Kp.trans Hk5.out.2.1 hk57
      have hk37 := Kp.trans Hk5.out.1 hk47
      have hWo := (Wo.of HP.out).kp hk47
      have hOa := (HMa.out.keep hk37).1
      have hBq7 := hBq.kp hk57
      have hXr := (Wo.of HP.out).lt
      have hrn : ∀ (j : Nat) (t : Tv), (t0 :: t1 :: ts)[j]? = some t → t.n ≤ 1000 := by
        obtain ⟨g0, g1, g2, g3⟩ := shapedL_len (checkL_ok Hc.out)
        intro j t ht
        rcases j with _ | _ | j
        · simp at ht; subst ht; rw [HP.out.n0]; omega
        · simp at ht; subst ht; rw [HP.out.n1]; omega
        · simp only [List.getElem?_cons_succ] at ht
          have hj := (List.getElem?_eq_some_iff.1 ht).1
          rw [HP.out.len] at hj
          have := (HP.out.ot j t _ ht (List.getElem?_eq_getElem hj)).1
          have := g3 j hj
          simp at *; omega
      obtain ⟨rows, hrows⟩ : ∃ rows, rows = t0 :: t1 :: ts := ⟨_, rfl⟩
      rw [← hrows] at hWo hXr hrn
      have hr0 : rows[0]? = some t0 := by rw [hrows]; rfl
      have hr1 : rows[1]? = some t1 := by rw [hrows]; rfl
      have hr2 : ∀ i : Nat, rows[i + 2]? = ts[i]? := fun i => by rw [hrows]; rfl
      have hnl1 : tl.n ≤ ts.length := Nat.le_of_eq hWo.len
      have hnl2 : ts.length ≤ tl.n := Nat.le_of_eq hWo.len.symm
      have hnl3 : tl.n ≤ 1000 := by
        obtain ⟨g0, g1, g2, g3⟩ := shapedL_len (checkL_ok Hc.out)
        rw [HP.out.nl]; omega
      have hs27 : w2.heap.size ≤ w7.heap.size := Nat.le_trans Hk3.out.2.1.size hk37.size
      have Hrn := Lib.hid hrn
      have Hr2 := Lib.hid hr2
      have HXr := Lib.hid hXr
      have HBq := Lib.hid hBq7
      have HWo := Lib.hid hWo
      have HBy := Lib.hid hBy
      have Hk7 := Lib.hid (And.intro hk6 (And.intro hkq (And.intro hk57 (And.intro hk47 hk37))))
      have han : n = bn := by rw [← HMa.out.2, ← HMb.out.2]
      have hn : n ≤ 1000 := by omega
      clear hk6 hkq hk57 hk47 hk37 hrn hr2 hXr hBq hBq7 hWo hBy hrows
      generalize hus : unrollL ini b0 b1 ls = us at *
      have Hus := Lib.hid hus
      clear hus
      go_wp2_with fail
      go_loopw [13] (fun i wr => ∃ (k : Nat) (xs : List Value), k ≤ n ∧ i = .int .i64 (k : Nat) ∧ Own wr w1.heap.size 42 3 ao n cap xs ∧ Fr (blkL ao) w7 wr) (fun i _ => n - (intOf i).toNat)
      case atStart => exact ⟨0, _, by omega, rfl, hOa, Fr.refl _ _⟩
      case round =>
        clear hOa
        obtain ⟨k, xs, hk, rfl, ho, hF⟩ := hrel
        by_cases hlt : k < n
        · have hxl := ho.1
          obtain ⟨g, _, rfl, _, _, _⟩ := ho.block (by omega)
          obtain ⟨x0, e0⟩ : ∃ x, wr.cell? ⟨g, k * 3, none⟩ = some x := ⟨xs[k * 3]'(by omega), by rw [ho.cell _ (by omega)]; exact List.getElem?_eq_getElem _⟩
          obtain ⟨x1, e1⟩ : ∃ x, wr.cell? ⟨g, k * 3 + 1, none⟩ = some x := ⟨xs[k * 3 + 1]'(by omega), by rw [ho.cell _ (by omega)]; exact List.getElem?_eq_getElem _⟩
          obtain ⟨x2, e2⟩ : ∃ x, wr.cell? ⟨g, k * 3 + 2, none⟩ = some x := ⟨xs[k * 3 + 2]'(by omega), by rw [ho.cell _ (by omega)]; exact List.getElem?_eq_getElem _⟩
          have f0 := ho.free (k * 3)
          have f1 := ho.free (k * 3 + 1)
          have f2 := ho.free (k * 3 + 2)
          have Hfin := Lib.hid (And.intro (((ho.store (k * 3) (iv 99)).store (k * 3 + 1) (iv 0)).store (k * 3 + 2) (iv 0)) (hF.trans (((Fr.set wr ⟨g, k * 3, none⟩ (iv 99)).trans (Fr.set _ ⟨g, k * 3 + 1, none⟩ (iv 0))).trans (Fr.set _ ⟨g, k * 3 + 2, none⟩ (iv 0)))))
          clear ho hF hxl
          go_wp2_with fail
          go_roundw
          case rel => exact ⟨k + 1, _, by omega, by go_num, Hfin.out⟩
          case measure => simp [intOf]; omega
        · obtain rfl : k = n := by omega
          have hkn := Kp.new wr (.cells #[iv 98, iv 0, iv 0] 42)
          have hcs : Cs (wr.alloc (.cells #[iv 98, iv 0, iv 0] 42)) (some ⟨wr.heap.size, 0, none⟩) [iv 98, iv 0, iv 0] := Cs.new wr [iv 98, iv 0, iv 0] 42 (0, 0)
          have hbs : w1.heap.size ≤ (wr.alloc (.cells #[iv 98, iv 0, iv 0] 42)).heap.size := Nat.le_trans (Nat.le_trans hs12 hs27) (Nat.le_trans hF.size hkn.size)
          go_upto_region 16 with (at_builtin; go_loud (refine wpList_app rfl (.tmp 80) (.tmp 82) 30 rfl el30 w1.heap.size rfl (ho.keep hkn) rfl [iv 98, iv 0, iv 0] rfl hcs (by simp [Value.oneCell']) (k + 1) rfl (xs ++ [iv 98, iv 0, iv 0]) rfl (by omega) hbs ?_); intro ao2 cap2 w8 ha2)
          have hF8 : Fr (blkL ao) w7 w8 := (hF.trans ((Fr.of_kp hkn).mono (by simp))).trans ha2.fr
          have hWo8 : Wo w8 w3.heap.size 0 rows tl ts := HWo.out.far hF8 (fun x hx hq => by
            have h1 := (HMa.out.lt x hx).2
            have h2 := (HXr.out x hq).1
            have h3 := (HMa2.out.lt x hx).2
            have h4 := Hk3.out.2.1.size
            omega)
          have hF8' : Fr (blkL ao ++ allL rows tl) w7 w8 := hF8.mono (fun x hx => List.mem_append.2 (.inl hx))
          clear ho hF hkn hcs hbs ha2
          go_wp2_with fail
          go_loopw [15] (fun i wr => ∃ (k : Nat), k ≤ 2 ∧ i = .int .i64 (k : Nat) ∧ Wo wr w3.heap.size k rows tl ts ∧ Fr (blkL ao ++ allL rows tl) w7 wr) (fun i _ => 2 - (intOf i).toNat)
          case atStart => exact ⟨0, by omega, rfl, hWo8, hF8'⟩
          case round =>
            clear hF8 hF8' hWo8
            obtain ⟨k2, hk2, rfl, hWr, hFr⟩ := hrel
            by_cases hlt2 : k2 < 2
            · obtain ⟨t, ht, hbc⟩ : ∃ t : Tv, rows[k2]? = some t ∧ ∀ wz, Fr (blkL ao ++ allL rows tl) w7 wz → wz.cell? ⟨bq, 1 + k2, none⟩ = some (.slice t.ao t.n t.c) := by
                have hq : ∀ wz, Fr (blkL ao ++ allL rows tl) w7 wz → Bx wz bq ⟨#[]⟩ t0.ao t1.ao tl.ao t0.n t0.c t1.n t1.c tl.n tl.c := fun wz hz => HBq.out.fr hz (fun hm => by
                  rcases List.mem_append.1 hm with h | h
                  · have := (HMa.out.lt _ h).2; have := Hk5.out.1.size; omega
                  · have := (HXr.out _ h).2; omega)
                rcases (show k2 = 0 ∨ k2 = 1 by omega) with rfl | rfl
                · exact ⟨t0, hr0, fun wz hz => (hq wz hz).2.1⟩
                · exact ⟨t1, hr1, fun wz hz => (hq wz hz).2.2.1⟩
              have htn := Hrn.out k2 t ht
              have hbr := hbc wr hFr
              have Hbc := Lib.hid hbc
              clear hbc
              go_wp2_with fail
              obtain ⟨wo, hwo⟩ : ∃ wo : World, wo = wr := ⟨_, rfl⟩
              go_loopw [16] (fun i wr => ∃ (j : Nat), j ≤ t.n ∧ i = .int .i64 (j : Nat) ∧ Wo wr w3.heap.size k2 rows tl ts ∧ Fr (blkL ao ++ allL rows tl) w7 wr) (fun i _ => t.n - (intOf i).toNat)
              case atStart => exact ⟨0, by omega, rfl, hWr, hFr⟩
              case round =>
                clear hbr hWr hFr
                obtain ⟨j, hj, rfl, hWr, hFr⟩ := hrel
                have hbr := Hbc.out _ hFr
                by_cases hjn : j < t.n
                · obtain ⟨g, x, hg, _, _, hc, hf⟩ := hWr.at (Nat.le_refl _) ht j hjn
                  have Hfin := Lib.hid (And.intro (hWr.store ht hg j 99) (hFr.step (Fr.set _ ⟨g, j, none⟩ (iv 99)) (fun x hx => .inl (List.mem_append.2 (.inr (allL_row ht x (by rw [hg]; simpa [blkL, blk] using hx)))))))
                  rw [hg] at hbr
                  clear hWr hFr
                  go_wp2_with fail
                  go_roundw
                  case rel => exact ⟨j + 1, by omega, by go_num, Hfin.out⟩
                  case measure => simp [intOf]; omega
                · obtain rfl : j = t.n := by omega
                  obtain ⟨xs, ho⟩ := hWr.row _ t (Nat.le_refl _) ht
                  have hxl := ho.1
                  have hkn := Kp.new wr (.cells #[iv 98] 3)
                  have hcs := Cs.new wr [iv 98] 3 (0, 0)
                  have hbs : w3.heap.size ≤ (wr.alloc (.cells #[iv 98] 3)).heap.size := Nat.le_trans Hk7.out.2.2.2.2.size (Nat.le_trans hFr.size hkn.size)
                  go_upto_region 24 with (at_builtin; go_loud (refine wpList_app rfl (.tmp 106) (.tmp 107) 22 rfl el22 w3.heap.size rfl (ho.keep hkn) rfl [iv 98] rfl hcs (by simp [Value.oneCell']) (t.n + 1) rfl ((xs ++ [98]).map iv) (by simp) (by omega) hbs ?_); intro ao3 cap3 w9 ha3)
                  obtain ⟨g, _, rfl, hgB, _, _⟩ := ha3.own.block (by omega)
                  have hc : w9.cell? ⟨g, t.n, none⟩ = some (iv 98) := by
                    rw [ha3.own.cell t.n (by omega)]
                    simp at hxl
                    simp [← hxl]
                  have hf := ha3.own.free t.n
                  have hgn : g ∈ blkL t.ao ∨ wr.heap.size ≤ g := by
                    rcases ha3.fresh g rfl with h | h
                    · exact .inl (mem_blkL.2 h)
                    · right; rw [h]; exact hkn.size
                  have hF9 : Fr (blkL t.ao ++ [g]) wr (w9.setCell ⟨g, t.n, none⟩ (iv 97)) := (((Fr.of_kp hkn).mono (by simp)).trans (ha3.fr.mono (fun x hx => List.mem_append.2 (.inl hx)))).trans ((Fr.set w9 ⟨g, t.n, none⟩ (iv 97)).mono (fun x hx => List.mem_append.2 (.inr hx)))
                  have Hfin := Lib.hid (And.intro (hWr.next ht hF9 (fun x hx => by
                    rcases List.mem_append.1 hx with h | h
                    · exact .inl h
                    · simp only [List.mem_singleton] at h; subst h; exact hgn)) (hFr.step hF9 (fun x hx => by
                    have hw := hFr.size
                    rcases List.mem_append.1 hx with h | h
                    · exact .inl (List.mem_append.2 (.inr (allL_row ht x h)))
                    · simp only [List.mem_singleton] at h
                      subst h
                      rcases hgn with h | h
                      · exact .inl (List.mem_append.2 (.inr (allL_row ht _ h)))
                      · exact .inr (by omega))))
                  clear hWr hFr ho hkn hcs hbs ha3 hF9 hgn hbr hxl
                  go_wp2_with fail
                  go_roundw
                  case rel => exact ⟨k2 + 1, by omega, by go_num, Hfin.out⟩
                  case measure => simp [intOf]; omega
            · obtain rfl : k2 = 2 := by omega
              have hbq3 : ∀ wz, Fr (blkL ao ++ allL rows tl) w7 wz → wz.cell? ⟨bq, 3, none⟩ = some (.slice tl.ao tl.n tl.c) := fun wz hz => (HBq.out.fr hz (fun hm => by
                  rcases List.mem_append.1 hm with h | h
                  · have := (HMa.out.lt _ h).2; have := Hk5.out.1.size; omega
                  · have := (HXr.out _ h).2; omega)).2.2.2
              have Hbq := Lib.hid hbq3
              clear hbq3
              rw [show ((2 : Nat) : Int) = 2 from rfl]
              go_wp2_with fail
              go_loopw [18] (fun i wr => ∃ (k : Nat), k ≤ ts.length ∧ i = .int .i64 (k : Nat) ∧ Wo wr w3.heap.size (k + 2) rows tl ts ∧ Fr (blkL ao ++ allL rows tl) w7 wr) (fun i _ => ts.length - (intOf i).toNat)
              case atStart => exact ⟨0, by omega, rfl, hWr, hFr⟩
              case round =>
                clear hWr hFr
                obtain ⟨q, hq, rfl, hWr, hFr⟩ := hrel
                have hbr := Hbq.out _ hFr
                by_cases hqn : q < ts.length
                · obtain ⟨t, hts⟩ : ∃ t, ts[q]? = some t := ⟨_, List.getElem?_eq_getElem hqn⟩
                  have ht : rows[q + 2]? = some t := by rw [Hr2.out]; exact hts
                  have htn := Hrn.out _ t ht
                  have Hts := Lib.hid hts
                  have Ht := Lib.hid ht
                  clear hts ht
                  obtain ⟨gl, f, hgl, _, _, hl0, hl1, hl2⟩ := hWr.line q t Hts.out
                  have hbr0 := hbr
                  rw [hgl] at hbr0
                  clear hbr
                  go_wp2_with fail
                  obtain ⟨wo, hwo⟩ : ∃ wo : World, wo = wr := ⟨_, rfl⟩
                  go_loopw [19] (fun i wr => ∃ (j : Nat), j ≤ t.n ∧ i = .int .i64 (j : Nat) ∧ Wo wr w3.heap.size (q + 2) rows tl ts ∧ Fr (blkL ao ++ allL rows tl) w7 wr) (fun i _ => t.n - (intOf i).toNat)
                  case atStart => exact ⟨0, by omega, rfl, hWr, hFr⟩
                  case round =>
                    clear hbr0 hWr hFr hl0 hl1 hl2 hgl
                    obtain ⟨j, hj, rfl, hWr, hFr⟩ := hrel
                    have hbr := Hbq.out _ hFr
                    obtain ⟨gl, f, hgl, _, _, hl0, hl1, hl2⟩ := hWr.line q t Hts.out
                    rw [hgl] at hbr
                    have Hgl := Lib.hid hgl
                    clear hgl
                    by_cases hjn : j < t.n
                    · obtain ⟨g, x, hg, _, _, hc, hf⟩ := hWr.at (Nat.le_refl _) Ht.out j hjn
                      have Hfin := Lib.hid (And.intro (hWr.store Ht.out hg j 99) (hFr.step (Fr.set _ ⟨g, j, none⟩ (iv 99)) (fun x hx => .inl (List.mem_append.2 (.inr (allL_row Ht.out x (by rw [hg]; simpa [blkL, blk] using hx)))))))
                      rw [hg] at hl2
                      clear hWr hFr
                      go_wp2_with fail
                      go_roundw
                      case rel => exact ⟨j + 1, by omega, by go_num, Hfin.out⟩
                      case measure => simp [intOf]; omega
                    · obtain rfl : j = t.n := by omega
                      obtain ⟨xs, ho⟩ := hWr.row _ t (Nat.le_refl _) Ht.out
                      have hxl := ho.1
                      have hkn := Kp.new wr (.cells #[iv 98] 3)
                      have hcs := Cs.new wr [iv 98] 3 (0, 0)
                      have hbs : w3.heap.size ≤ (wr.alloc (.cells #[iv 98] 3)).heap.size := Nat.le_trans Hk7.out.2.2.2.2.size (Nat.le_trans hFr.size hkn.size)
                      go_upto_region 33 with (at_builtin; go_loud (refine wpList_app rfl (.tmp 145) (.tmp 146) 22 rfl el22 w3.heap.size rfl (ho.keep hkn) rfl [iv 98] rfl hcs (by simp [Value.oneCell']) (t.n + 1) rfl ((xs ++ [98]).map iv) (by simp) (by omega) hbs ?_); intro ao3 cap3 w9 ha3)
                      obtain ⟨g, _, rfl, hgB, _, _⟩ := ha3.own.block (by omega)
                      have hc : w9.cell? ⟨g, t.n, none⟩ = some (iv 98) := by
                        rw [ha3.own.cell t.n (by omega)]
                        simp at hxl
                        simp [← hxl]
                      have hf := ha3.own.free t.n
                      have hgn : g ∈ blkL t.ao ∨ wr.heap.size ≤ g := by
                        rcases ha3.fresh g rfl with h | h
                        · exact .inl (mem_blkL.2 h)
                        · right; rw [h]; exact hkn.size
                      have hF9 : Fr (blkL t.ao ++ [g]) wr (w9.setCell ⟨g, t.n, none⟩ (iv 97)) := (((Fr.of_kp hkn).mono (by simp)).trans (ha3.fr.mono (fun x hx => List.mem_append.2 (.inl hx)))).trans ((Fr.set w9 ⟨g, t.n, none⟩ (iv 97)).mono (fun x hx => List.mem_append.2 (.inr hx)))
                      have hW9 := hWr.next Ht.out hF9 (fun x hx => by
                        rcases List.mem_append.1 hx with h | h
                        · exact .inl h
                        · simp only [List.mem_singleton] at h; subst h; exact hgn)
                      have hF79 : Fr (blkL ao ++ allL rows tl) w7 (w9.setCell ⟨g, t.n, none⟩ (iv 97)) := (hFr.step hF9 (fun x hx => by
                        have hw := hFr.size
                        rcases List.mem_append.1 hx with h | h
                        · exact .inl (List.mem_append.2 (.inr (allL_row Ht.out x h)))
                        · simp only [List.mem_singleton] at h
                          subst h
                          rcases hgn with h | h
                          · exact .inl (List.mem_append.2 (.inr (allL_row Ht.out _ h)))
                          · exact .inr (by omega)))
                      clear hWr hFr ho hkn hcs hbs ha3 hF9 hgn hbr hxl hl0 hl1 hl2
                      go_upto_region 34 with fail
                      generalize w9.setCell ⟨g, t.n, none⟩ (iv 97) = wA at *
                      clear hc hf
                      have hbr := Hbq.out _ hF79
                      obtain ⟨g3, f3, hgl, _, _, hl0, hl1, hl2⟩ := hW9.line q t Hts.out
                      rw [hgl] at hbr
                      have Hfin := Lib.hid (And.intro (hW9.from hgl q 99) (hF79.step (Fr.set _ ⟨g3, q * 2, none⟩ (iv 99)) (fun x hx => .inl (List.mem_append.2 (.inr (List.mem_append.2 (.inl (by rw [hgl]; simpa [blkL, blk] using hx))))))))
                      clear hW9 hF79 hgl
                      go_wp2_with fail
                      go_roundw
                      case rel => exact ⟨q + 1, by omega, by go_num, Hfin.out⟩
                      case measure => simp [intOf]; omega
                · obtain rfl : q = ts.length := by omega
                  have hkE : Kp wb wr := ((Fr.of_kp (Kp.trans Hk3.out.2.2 Hk7.out.2.2.2.2)).step hFr (fun x hx => .inr (by
                    have := Hk3.out.1.size
                    rcases List.mem_append.1 hx with h | h
                    · have h1 := (HMa.out.lt _ h).1; have h2 := hk1s.out; omega
                    · have h1 := (HXr.out _ h).1; have h2 := Hk3.out.2.1.size; omega))).kp
                  have hMbE : MvO wr w2.heap.size bo bn bcap us := ⟨hFr.own (HMb.out.keep Hk7.out.2.2.2.2).1 (fun x hx hq => by
                    have h1 := HMb.out.lt x hx
                    rcases List.mem_append.1 hq with h | h
                    · have h2 := (HMa2.out.lt _ h).2; omega
                    · have h2 := (HXr.out _ h).1; omega), HMb.out.2⟩
                  have hPy : PatO wr w5.heap.size s0 s1 sl ss b0 b1 ls := (HQ.out.kp Hk7.out.2.1).fr hFr (fun x hx => by
                    left
                    have h3 := Hk5.out.2.1.size
                    rcases List.mem_append.1 hx with h | h
                    · have h2 := (HMa.out.lt _ h).2; have := Hk5.out.1.size; omega
                    · have h2 := (HXr.out _ h).2; omega)
                  have hByE : Bx wr b_y ⟨#[]⟩ s0.ao s1.ao sl.ao s0.n s0.c s1.n s1.c sl.n sl.c := HBy.out.fr hFr (fun hm => by
                    have h3 := Hk5.out.2.1.size
                    have h4 := Hk7.out.1.size
                    rcases List.mem_append.1 hm with h | h
                    · have h2 := (HMa.out.lt _ h).2; have := Hk5.out.1.size; omega
                    · have h2 := (HXr.out _ h).2; omega)
                  obtain ⟨q0, q1, q2, q3⟩ := HB.out.kp hkE
                  have HPy := Lib.hid hPy
                  have HByE := Lib.hid hByE
                  have HMbE := Lib.hid hMbE
                  have HkE := Lib.hid hkE
                  clear hWr hFr hPy hByE hMbE hkE
                  go_wp2_with fail
                  (with_reducible refine (HU.out wr HkE.out).mono ?_)
                  rintro e wE ⟨hkE2, h⟩
                  rw [if_pos Hc.out] at h
                  obtain ⟨co, cn, cc, rfl, hMc⟩ := h
                  rw [Hus.out] at hMc
                  have HMm := Lib.hid (moves2_any wE bo co bn cn bcap cc us us (HMbE.out.keep hkE2).mvs hMc.mvs)
                  have hk0E := Kp.trans HkE.out hkE2
                  have HSm := Lib.hid (fun wz (kz : Kp wE wz) => same_any wz ⟨#[]⟩ nm s0.ao s1.ao sl.ao a0 a1 al s0.n s0.c s1.n s1.c sl.n sl.c n0 c0 n1 c1 nl cl b0 b1 ls b0 b1 ls ((HPy.out.kp (Kp.trans hkE2 kz)).is0) ((HPy.out.kp (Kp.trans hkE2 kz)).is1) ((HPy.out.kp (Kp.trans hkE2 kz)).lnsK Hc.out) ((Kp.trans hk0E kz).is HI.out.2.1) ((Kp.trans hk0E kz).is HI.out.2.2.1) ((Kp.trans hk0E kz).lns HI.out.2.2.2))
                  rw [sameL_refl] at HSm
                  have Hk0E := Lib.hid (And.intro hkE2 hk0E)
                  clear q0 q1 q2 q3 hkE2 hk0E hMc
                  go_wp2_with fail
                  (with_reducible refine HMm.out.mono ?_)
                  rintro e wF ⟨rfl, hkF⟩
                  rw [beq_self_eq_true]
                  obtain ⟨q0, q1, q2, q3⟩ := HB.out.kp (Kp.trans Hk0E.out.2 hkF)
                  obtain ⟨z0, z1, z2, z3⟩ := HByE.out.kp (Kp.trans Hk0E.out.1 hkF)
                  have HkF := Lib.hid hkF
                  clear hkF
                  go_wp2_with fail
                  (with_reducible refine (HSm.out wF HkF.out).mono ?_)
                  rintro e wG ⟨rfl, hkG⟩
                  clear q0 q1 q2 q3 z0 z1 z2 z3
                  have HkG := Lib.hid (Kp.trans (Kp.trans Hk0E.out.2 HkF.out) hkG)
                  clear hkG
                  go_wp2_with fail
                  (with_reducible refine (HA.out wG HkG.out).mono ?_)
                  rintro e wH ⟨rfl, hkH⟩
                  go_wp2_with fail
                  go_ret
                  exact ⟨rfl, Kp.trans Hkb.out (Kp.trans HkG.out hkH)⟩
    · rw [if_neg hc, errV_nz E hc] at h
      subst h
      have HCc := HC.out
      rw [errV_nz E hc] at HCc
      have HCe := Lib.hid HCc
      have Hc := Lib.hid hc
      replace q0 := hk12.cell q0
      replace q1 := hk12.cell q1
      replace q2 := hk12.cell q2
      replace q3 := hk12.cell q3
      clear HCc hc
      go_wp2_with fail
      (with_reducible refine (HU.out w2 hk2).mono ?_)
      rintro e w3 ⟨hk23, h⟩
      rw [if_neg Hc.out, errV_nz E Hc.out] at h
      subst h
      have hk3 := Kp.trans hk2 hk23
      have Hk3 := Lib.hid hk3
      generalize checkL b0 b1 ls = cc at *
      clear q0 q1 q2 q3 hk1 hk12 hk2 hk23 hk3
      go_wp2_with fail
      (with_reducible refine (HCe.out w3 Hk3.out).mono ?_)
      rintro e w4 ⟨rfl, rfl⟩
      go_wp2_with fail
      (with_reducible refine (HCe.out w4 Hk3.out).mono ?_)
      rintro e w5 ⟨rfl, rfl⟩
      have hbeq : ((cc : Int) == (cc : Int)) = true := by simp
      go_wp2_with fail
      (with_reducible refine (HA.out w5 Hk3.out).mono ?_)
      rintro e w6 ⟨rfl, hk6⟩
      go_wp2_with fail
      go_ret
      exact ⟨rfl, Kp.trans Hkb.out (Kp.trans Hk3.out hk6)⟩
end Go.Proofs.YtpemfmjplejdiaaDoor
