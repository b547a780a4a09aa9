/- A protocol's name, read by the document's engine. Condition: the text's length. -/
import Derived.Test.YtbdphdgomcabmaaGreatDoorNa8
namespace Go.Proofs.YtbdphdgomcabmaaGreatDoor
open Go.RowKit

set_option maxRecDepth 100000 in
set_option maxHeartbeats 8000000 in
theorem rparseN_any (w : World) (s : ByteArray) (hsz : s.size ≤ 9223372036854775807) : Calls Tryz.prog 12 #[.string s] w (NmPost w (fun b => iv (if b then 0 else 13)) (nmD s.data.toList)) := by
  have hkA := Kp.new w (.cells #[.string ⟨#[]⟩, .slice none 0 0, .slice none 0 0, .slice none 0 0] 26)
  have hZ := Four.new w (.string ⟨#[]⟩) (.slice none 0 0) (.slice none 0 0) (.slice none 0 0) 26
  go_enter Tryz.func12, Tryz.ntmps12
  go_upto_region 1 with fail
  obtain ⟨bz, hbz⟩ : ∃ bz, bz = w.heap.size := ⟨_, rfl⟩
  rw [← hbz] at hZ ⊢
  generalize w.alloc (.cells #[.string ⟨#[]⟩, .slice none 0 0, .slice none 0 0, .slice none 0 0] 26) = w1 at *
  have hbz2 : w.heap.size ≤ bz := by omega
  have HK0 := Lib.hid hkA
  have HZ := Lib.hid hZ
  clear hkA hZ hbz
  have HFu := Lib.hid (fullN_any w1 s hsz)
  unfold FullPost at HFu
  cases hf : Q.fullN s.data.toList with
  | none =>
    rw [hf] at HFu
    go_wp2_with fail
    (with_reducible refine HFu.out.mono ?_)
    rintro e wv ⟨rfl, rfl⟩
    clear HFu
    obtain ⟨wf, hwf, hF2, hPf⟩ := (HZ.out.kp (Kp.refl w1)).set (.string ⟨#[]⟩) (.slice none 0 0) (.slice none 0 0) (.slice none 0 0)
    have Hk := Lib.hid (kp_step' (Kp.trans HK0.out (Kp.refl w1)) hF2 (fun j hj => by simp at hj; omega))
    have H := Lib.hid (NmPost.no (v := (fun b => iv (if b then 0 else 13))) (u := iv 13) Hk.out (parse_none hf) rfl)
    obtain ⟨x0, x1, x2, x3, f0, f1, f2, f3⟩ := HZ.out.kp (Kp.refl w1)
    obtain ⟨r0, r1, r2, r3, _, _, _, _⟩ := hPf
    have Hwf := Lib.hid hwf
    clear hwf hF2
    go_wp2_with fail
    rw [← Hwf.out]
    show bodyPost Tryz.prog Tryz.f12 (NmPost w (fun b => iv (if b then 0 else 13)) (nmD s.data.toList)) .ret _ _
    refine bodyPost_ret (v := .tuple #[zeroP, iv 13]) (by simp [results, Tryz.results12, go_sem, r0, r1, r2, r3]) rfl ?_
    exact H.out
  | some l =>
    rw [hf] at HFu
    have hfl : l.length ≤ 224 := by
      have := hf
      unfold Q.fullN at this
      split at this
      · cases this
      · rename_i hn
        cases this
        rw [List.length_take, List.length_drop]
        have : ¬ 255 < s.data.toList.length := fun q => hn (.inl q)
        omega
    have Hf := Lib.hid hf
    clear hf
    go_wp2_with fail
    (with_reducible refine HFu.out.mono ?_)
    rintro e wv ⟨rfl, f, rfl, hfd⟩
    clear HFu
    subst hfd
    have hfs : f.size ≤ 224 := by rw [Lib.size_eq]; exact hfl
    clear hfl
    go_wp2_with fail
    go_loopw [6] (fun iv_ wr => ∃ i : Nat, iv_ = .int .i64 (i : Nat) ∧ w1 = wr ∧ CapI f i) (fun i _ => f.size - (intOf i).toNat)
    case atStart => exact ⟨0, rfl, rfl, ⟨Nat.zero_le _, by simp, by simp⟩⟩
    case round =>
      obtain ⟨i, rfl, rfl, hcp⟩ := hrel
      obtain ⟨wr, hwr⟩ : ∃ wr, wr = w1 := ⟨_, rfl⟩
      rw [← hwr] at HK0 HZ ⊢
      clear hwr
      by_cases hgo : ∃ h : i < f.size, Q.upB f[i] = true
      · obtain ⟨hi1, hlo⟩ := hgo
        have HJ := Lib.hid (hcp.step hi1 hlo)
        have hij : ((i : Nat) : Int) < (f.size : Nat) := by omega
        have HC := Lib.hid (upper_any wr f[i])
        rw [hlo] at HC
        clear hlo hcp
        go_wp2_with fail
        (with_reducible refine HC.out.mono ?_)
        rintro e v ⟨rfl, rfl⟩
        clear HC
        go_wp2_with fail
        go_roundw
        case rel => exact ⟨i + 1, by go_num, trivial, HJ.out⟩
        case measure => simp [intOf]; omega
      · have hst : i = f.size ∨ ∃ hi : i < f.size, Q.upB f[i] = false := by
          rcases Nat.lt_or_ge i f.size with q | q
          · exact .inr ⟨q, by cases h : Q.upB f[i] with | false => rfl | true => exact absurd ⟨q, h⟩ hgo⟩
          · exact .inl (by have := hcp.le; omega)
        have Hst := Lib.hid hst
        have Hcs := Lib.hid (hcp.stop hst)
        have hil := hcp.le
        clear hgo hst hcp
        go_upto_region 5 with fail
        go_cut [30] (fun v wc => v = .bool false ∧ wc = wr)
        case first =>
          rcases Hst.out with hz | ⟨hi1, hlo⟩
          · have hij : ¬ ((i : Nat) : Int) < (f.size : Nat) := by omega
            clear hz
            go_wp2_with fail
            go_meet
            case rel => exact ⟨rfl, rfl⟩
          · have hij : ((i : Nat) : Int) < (f.size : Nat) := by omega
            have HC := Lib.hid (upper_any wr f[i])
            rw [hlo] at HC
            clear hlo
            go_wp2_with fail
            (with_reducible refine HC.out.mono ?_)
            rintro e v ⟨rfl, rfl⟩
            clear HC
            go_wp2_with fail
            go_meet
            case rel => exact ⟨rfl, rfl⟩
        case rest =>
          obtain ⟨rfl, hcw⟩ := hcut
          replace hcw := hcw.symm
          subst hcw
          have HFi := Lib.hid (rfind_st wr [bz] (by have := HZ.out.lt; simpa using this) (f.extract 0 i))
          have hbl := HZ.out.lt
          rw [← Hcs.out.1] at HFi
          obtain ⟨X, hX⟩ : ∃ X, X = fnd (f.data.toList.takeWhile Q.upB) := ⟨_, rfl⟩
          rw [← hX] at HFi
          obtain ⟨pn, p0, p1, pl, has⟩ := X
          simp only at HFi
          have HX := Lib.hid hX
          clear hX
          have Hbe := Lib.hid (show (f.extract i f.size).data.toList = f.data.toList.dropWhile Q.upB by rw [Hcs.out.2, ext_list, List.take_of_length_le (by rw [List.length_drop, ← Lib.size_eq]; omega)])
          go_wp2_with fail
          (with_reducible refine HFi.out.mono ?_)
          rintro e w3 ⟨hk3, t0, t1, tl, rfl, hP3⟩
          unfold tvv
          have hkq := Kp.new w3 (.cells #[.string pn, .slice t0.ao t0.n t0.c, .slice t1.ao t1.n t1.c, .slice tl.ao tl.n tl.c] 26)
          have hQ := Four.new w3 (.string pn) (.slice t0.ao t0.n t0.c) (.slice t1.ao t1.n t1.c) (.slice tl.ao tl.n tl.c) 26
          have HK4 := Lib.hid (Kp.trans hk3 hkq)
          have HP4 := Lib.hid (fun (w : World) (h : Fr [bz] (w3.alloc (.cells #[.string pn, .slice t0.ao t0.n t0.c, .slice t1.ao t1.n t1.c, .slice tl.ao tl.n tl.c] 26)) w) => hP3 w (((Fr.of_kp hkq).mono (by simp)).trans h))
          have HQ4 := Lib.hid hQ
          clear hk3 hkq hP3 hQ HFi
          go_upto_region 8 with fail
          generalize w3.alloc (.cells #[.string pn, .slice t0.ao t0.n t0.c, .slice t1.ao t1.n t1.c, .slice tl.ao tl.n tl.c] 26) = w4 at *
          generalize w3.heap.size = bq at *
          have HWd := Lib.hid (rwordsN_any w4 (f.extract i f.size) (by rw [ByteArray.size_extract]; omega))
          unfold WdPost at HWd
          rw [Hbe.out] at HWd
          cases hb : Q.behind (f.data.toList.dropWhile Q.upB) with
          | none =>
            rw [hb] at HWd
            have Hb := Lib.hid hb
            clear hb
            go_wp2_with fail
            (with_reducible refine HWd.out.mono ?_)
            rintro e w5 ⟨hk5, rfl⟩
            have HK5 := Lib.hid (Kp.trans HK4.out hk5)
            clear hk5 HWd
            cases has with
            | false =>
              obtain ⟨wf, hwf, hF2, hPf⟩ := (HZ.out.kp HK5.out).set (.string ⟨#[]⟩) (.slice none 0 0) (.slice none 0 0) (.slice none 0 0)
              have Hk := Lib.hid (kp_step' (Kp.trans HK0.out HK5.out) hF2 (fun j hj => by simp at hj; omega))
              have H := Lib.hid (NmPost.no (v := (fun b => iv (if b then 0 else 13))) (u := iv 13) Hk.out (parse_no_words Hf.out Hb.out) rfl)
              obtain ⟨x0, x1, x2, x3, f0, f1, f2, f3⟩ := HZ.out.kp HK5.out
              obtain ⟨r0, r1, r2, r3, _, _, _, _⟩ := hPf
              have Hwf := Lib.hid hwf
              clear hwf hF2
              go_wp2_with fail
              rw [← Hwf.out]
              show bodyPost Tryz.prog Tryz.f12 (NmPost w (fun b => iv (if b then 0 else 13)) (nmD s.data.toList)) .ret _ _
              refine bodyPost_ret (v := .tuple #[zeroP, iv 13]) (by simp [results, Tryz.results12, go_sem, r0, r1, r2, r3]) rfl ?_
              exact H.out
            | true =>
              obtain ⟨wf, hwf, hF2, hPf⟩ := (HZ.out.kp HK5.out).set (.string ⟨#[]⟩) (.slice none 0 0) (.slice none 0 0) (.slice none 0 0)
              have Hk := Lib.hid (kp_step' (Kp.trans HK0.out HK5.out) hF2 (fun j hj => by simp at hj; omega))
              have H := Lib.hid (NmPost.no (v := (fun b => iv (if b then 0 else 13))) (u := iv 13) Hk.out (parse_no_words Hf.out Hb.out) rfl)
              obtain ⟨x0, x1, x2, x3, f0, f1, f2, f3⟩ := HZ.out.kp HK5.out
              obtain ⟨r0, r1, r2, r3, _, _, _, _⟩ := hPf
              have Hwf := Lib.hid hwf
              clear hwf hF2
              go_wp2_with fail
              rw [← Hwf.out]
              show bodyPost Tryz.prog Tryz.f12 (NmPost w (fun b => iv (if b then 0 else 13)) (nmD s.data.toList)) .ret _ _
              refine bodyPost_ret (v := .tuple #[zeroP, iv 13]) (by simp [results, Tryz.results12, go_sem, r0, r1, r2, r3]) rfl ?_
              exact H.out
          | some l =>
            rw [hb] at HWd
            have Hb := Lib.hid hb
            clear hb
            go_wp2_with fail
            (with_reducible refine HWd.out.mono ?_)
            rintro e w5 ⟨hk5, ws, wo, wn, wcp, rfl, hwl, hW⟩
            have HK5 := Lib.hid (Kp.trans HK4.out hk5)
            have HQ5 := Lib.hid (HQ4.out.kp hk5)
            have HP5 := Lib.hid (fun (w : World) (h : Fr [bz] w5 w) => HP4.out w (((Fr.of_kp hk5).mono (by simp)).trans h))
            have HW := Lib.hid hW
            have Hwl := Lib.hid hwl
            clear hk5 HWd hW hwl HQ4 HP4 HK4
            cases hr : rowOf (f.data.toList.takeWhile Q.upB) with
            | none =>
              have hx := HX.out
              rw [fnd_none hr] at hx
              obtain rfl : has = false := congrArg (fun z => z.2.2.2.2) hx
              have Hr := Lib.hid hr
              clear hx hr
              obtain ⟨wf, hwf, hF2, hPf⟩ := (HZ.out.kp HK5.out).set (.string ⟨#[]⟩) (.slice none 0 0) (.slice none 0 0) (.slice none 0 0)
              have Hk := Lib.hid (kp_step' (Kp.trans HK0.out HK5.out) hF2 (fun j hj => by simp at hj; omega))
              have H := Lib.hid (NmPost.no (v := (fun b => iv (if b then 0 else 13))) (u := iv 13) Hk.out (parse_row Hf.out Hr.out) rfl)
              obtain ⟨x0, x1, x2, x3, f0, f1, f2, f3⟩ := HZ.out.kp HK5.out
              obtain ⟨r0, r1, r2, r3, _, _, _, _⟩ := hPf
              have Hwf := Lib.hid hwf
              clear hwf hF2
              go_wp2_with fail
              rw [← Hwf.out]
              show bodyPost Tryz.prog Tryz.f12 (NmPost w (fun b => iv (if b then 0 else 13)) (nmD s.data.toList)) .ret _ _
              refine bodyPost_ret (v := .tuple #[zeroP, iv 13]) (by simp [results, Tryz.results12, go_sem, r0, r1, r2, r3]) rfl ?_
              exact H.out
            | some y =>
              have hx := HX.out
              rw [fnd_some hr] at hx
              obtain ⟨rfl, rfl, rfl, rfl, rfl⟩ : pn = bs y.1 ∧ p0 = y.2.1.1 ∧ p1 = y.2.1.2 ∧ pl = y.2.2.1 ∧ has = true := by simpa using hx
              have Hy := Lib.hid (row_s hr).1
              have HPs := Lib.hid (parse_words Hf.out hr)
              clear hx hr
              by_cases hn0 : wn = 0
              · subst hn0
                have hl0 : l = [] := by rw [← Hwl.out]; have := HW.out.1; unfold wl; rw [List.length_eq_zero_iff.1 this]; rfl
                have HPn := Lib.hid (HPs.out.trans (by rw [Hb.out, hl0]))
                clear hl0
                obtain ⟨wf, hwf, hF2, hPf⟩ := (HZ.out.kp HK5.out).set (.string (bs y.1)) (.slice t0.ao t0.n t0.c) (.slice t1.ao t1.n t1.c) (.slice tl.ao tl.n tl.c)
                have Hk := Lib.hid (kp_step' (Kp.trans HK0.out HK5.out) hF2 (fun j hj => by simp at hj; omega))
                have HPf := Lib.hid (HP5.out _ hF2)
                obtain ⟨x0, x1, x2, x3, f0, f1, f2, f3⟩ := HZ.out.kp HK5.out
                obtain ⟨y0, y1, y2, y3, _, _, _, _⟩ := HQ5.out
                obtain ⟨r0, r1, r2, r3, _, _, _, _⟩ := hPf
                have Hwf := Lib.hid hwf
                clear hwf hF2
                go_wp2_with fail
                rw [← Hwf.out]
                show bodyPost Tryz.prog Tryz.f12 (NmPost w (fun b => iv (if b then 0 else 13)) (nmD s.data.toList)) .ret _ _
                refine bodyPost_ret (v := .tuple #[.agg #[.string (bs y.1), .slice t0.ao t0.n t0.c, .slice t1.ao t1.n t1.c, .slice tl.ao tl.n tl.c], iv 0]) (by simp [results, Tryz.results12, go_sem, r0, r1, r2, r3]) rfl ?_
                exact NmPost.yes Hk.out HPn.out rfl rfl HPf.out
              · have hlen : ws.length = wn := HW.out.1
                have hcnt := behind_count Hb.out
                have hdl : (f.data.toList.dropWhile Q.upB).length ≤ f.size := by rw [Hcs.out.2, List.length_drop, ← Lib.size_eq]; omega
                have hwn : wn ≤ 200 := by have h1 := hcnt.1; rw [← Hwl.out] at h1; unfold wl at h1; rw [List.length_map, hlen] at h1; omega
                have hwz : ∀ x ∈ ws, x.size ≤ 281474976710656 := fun x hx => by have h1 := hcnt.2 x.data.toList (by rw [← Hwl.out]; exact List.mem_map.2 ⟨x, hx, rfl⟩); rw [Lib.size_eq]; omega
                have Hbs := Lib.hid (show ShortP (bs y.1) t0.n t1.n tl.n y.2.2.1 from ⟨by rw [bs_size]; have := Hy.out.nm; omega, by rw [← (HP5.out w5 (Fr.refl _ _)).i0.1]; have := Hy.out.b0; omega, by rw [← (HP5.out w5 (Fr.refl _ _)).i1.1]; have := Hy.out.b1; omega, by rw [← (HP5.out w5 (Fr.refl _ _)).il.1]; have := Hy.out.ls; omega, fun l hl => by have := Hy.out.ts l hl; omega⟩)
                have hM := rmod_st w5 (bs y.1) t0.ao t1.ao tl.ao t0.n t0.c t1.n t1.c tl.n tl.c y.2.1.1 y.2.1.2 y.2.2.1 (HP5.out w5 (Fr.refl _ _)) Hbs.out wo wn wcp ws HW.out hwz hwn
                rw [bs_list, show wb ws = l from Hwl.out] at hM
                have hcons : ∃ a r, l = a :: r := by cases hl : l with | nil => (exfalso; have h1 := Hwl.out; rw [hl] at h1; unfold wl at h1; have h2 := congrArg List.length h1; simp at h2; rw [h2] at hlen; exact hn0 (by simpa using hlen.symm)) | cons a r => exact ⟨a, r, rfl⟩
                have HPn := Lib.hid (show Q.parseN s.data.toList = (Q.modR ⟨y.1, y.2.1.1, y.2.1.2, y.2.2.1⟩ l).1 by obtain ⟨a, r, rfl⟩ := hcons; rw [HPs.out, Hb.out])
                have hbz5 : bz < w5.heap.size := by have := (HZ.out.kp HK5.out).lt; exact this
                have hwni : ¬ ((wn : Nat) : Int) = 0 := by omega
                have hwnb : (((wn : Nat) : Int) == 0) = false := by simpa using hwni
                have Hmm := Lib.hid (modR_mdf (p := ⟨y.1, y.2.1.1, y.2.1.2, y.2.2.1⟩) (ws := l))
                generalize mdf ⟨y.1, y.2.1.1, y.2.1.2, y.2.2.1⟩ l = X at hM Hmm
                have HM := Lib.hid hM
                clear hM hcons hwz hwn hcnt hlen hdl hn0 HPs
                obtain ⟨y0, y1, y2, y3, _, _, _, _⟩ := HQ5.out
                go_wp2_with fail
                (with_reducible refine HM.out.mono ?_)
                rintro e w6 ⟨hk6, u0, u1, ul, rfl, hP6⟩
                unfold tvv
                clear y0 y1 y2 y3 HM
                have hkq := Kp.new w6 (.cells #[.string X.1, .slice u0.ao u0.n u0.c, .slice u1.ao u1.n u1.c, .slice ul.ao ul.n ul.c] 26)
                have HQ7 := Lib.hid (Four.new w6 (.string X.1) (.slice u0.ao u0.n u0.c) (.slice u1.ao u1.n u1.c) (.slice ul.ao ul.n ul.c) 26)
                have HK7 := Lib.hid (Kp.trans HK5.out (Kp.trans hk6 hkq))
                have HP7 := Lib.hid (fun (w'' : World) (h : Fr [bz] (w6.alloc (.cells #[.string X.1, .slice u0.ao u0.n u0.c, .slice u1.ao u1.n u1.c, .slice ul.ao ul.n ul.c] 26)) w'') => hP6 [bz] w'' (((Fr.of_kp hkq).mono (by simp)).trans h) (by simpa using hbz5))
                clear hk6 hkq hP6
                go_upto_region 14 with fail
                generalize w6.alloc (.cells #[.string X.1, .slice u0.ao u0.n u0.c, .slice u1.ao u1.n u1.c, .slice ul.ao ul.n ul.c] 26) = w7 at *
                generalize w6.heap.size = bq2 at *
                rcases Hmm.out with ⟨q, hq1, hq2⟩ | ⟨hq1, hq2⟩
                · have HPq := Lib.hid (HPn.out.trans hq1)
                  subst hq2
                  rw [show (((0 : Nat) : Int)) = 0 from rfl]
                  clear hq1 Hmm HPn
                  obtain ⟨wf, hwf, hF2, hPf⟩ := (HZ.out.kp HK7.out).set (.string (bs q.nm)) (.slice u0.ao u0.n u0.c) (.slice u1.ao u1.n u1.c) (.slice ul.ao ul.n ul.c)
                  have Hk := Lib.hid (kp_step' (Kp.trans HK0.out HK7.out) hF2 (fun j hj => by simp at hj; omega))
                  have HPf := Lib.hid (HP7.out _ hF2)
                  obtain ⟨x0, x1, x2, x3, f0, f1, f2, f3⟩ := HZ.out.kp HK7.out
                  obtain ⟨y0, y1, y2, y3, _, _, _, _⟩ := HQ7.out
                  obtain ⟨r0, r1, r2, r3, _, _, _, _⟩ := hPf
                  have Hwf := Lib.hid hwf
                  clear hwf hF2
                  go_wp2_with fail
                  rw [← Hwf.out]
                  show bodyPost Tryz.prog Tryz.f12 (NmPost w (fun b => iv (if b then 0 else 13)) (nmD s.data.toList)) .ret _ _
                  refine bodyPost_ret (v := .tuple #[.agg #[.string (bs q.nm), .slice u0.ao u0.n u0.c, .slice u1.ao u1.n u1.c, .slice ul.ao ul.n ul.c], iv 0]) (by simp [results, Tryz.results12, go_sem, r0, r1, r2, r3]) rfl ?_
                  exact NmPost.yes Hk.out HPq.out rfl rfl HPf.out
                · have HPq := Lib.hid (HPn.out.trans hq1)
                  have hq3 : ¬ ((X.2.2.2.2 : Nat) : Int) = 0 := by omega
                  have hq4 : (((X.2.2.2.2 : Nat) : Int) == 0) = false := by simpa using hq3
                  clear hq1 hq2 Hmm HPn
                  obtain ⟨wf, hwf, hF2, hPf⟩ := (HZ.out.kp HK7.out).set (.string ⟨#[]⟩) (.slice none 0 0) (.slice none 0 0) (.slice none 0 0)
                  have Hk := Lib.hid (kp_step' (Kp.trans HK0.out HK7.out) hF2 (fun j hj => by simp at hj; omega))
                  have H := Lib.hid (NmPost.no (v := (fun b => iv (if b then 0 else 13))) (u := iv 13) Hk.out (HPq.out) rfl)
                  obtain ⟨x0, x1, x2, x3, f0, f1, f2, f3⟩ := HZ.out.kp HK7.out
                  obtain ⟨r0, r1, r2, r3, _, _, _, _⟩ := hPf
                  have Hwf := Lib.hid hwf
                  clear hwf hF2
                  go_wp2_with fail
                  rw [← Hwf.out]
                  show bodyPost Tryz.prog Tryz.f12 (NmPost w (fun b => iv (if b then 0 else 13)) (nmD s.data.toList)) .ret _ _
                  refine bodyPost_ret (v := .tuple #[zeroP, iv 13]) (by simp [results, Tryz.results12, go_sem, r0, r1, r2, r3]) rfl ?_
                  exact H.out
end Go.Proofs.YtbdphdgomcabmaaGreatDoor
