/- GradeOwn: the walk. Conditions: the pattern lies there; the library's variable and the errors too. -/
import Derived.Test.YtjbjgpcldcpjmaaDoorOwnB
namespace Go.Proofs.YtjbjgpcldcpjmaaDoor
open Go.RowKit

set_option maxRecDepth 100000 in
set_option maxHeartbeats 8000000 in
theorem ownG_any (w : World) (E : Nat → Addr) (mx : Int) (hV : Env w E mx) (more : Int) (nm : ByteArray) (a0 a1 al : Option Addr) (n0 c0 n1 c1 nl cl : Nat) (b0 b1 : List Int) (ls : List Ln) (hP : PatI w a0 a1 al n0 n1 nl b0 b1 ls) :
    Calls Tryd.prog 6 #[patV nm a0 a1 al n0 c0 n1 c1 nl cl, iv more] w fun e w' => e = .returned (.bool true) ∧ Kp w w' := by
  have Hll := Lib.hid hP.il.1
  have hkb := Kp.new w (.cells #[.string nm, .slice a0 n0 c0, .slice a1 n1 c1, .slice al nl cl] 26)
  have hB := Bx.new w nm a0 a1 al n0 c0 n1 c1 nl cl
  obtain ⟨wb, hwb⟩ : ∃ wb, wb = w.alloc (.cells #[.string nm, .slice a0 n0 c0, .slice a1 n1 c1, .slice al nl cl] 26) := ⟨_, rfl⟩
  rw [← hwb] at hkb hB
  obtain ⟨bx, hbx⟩ : ∃ bx, bx = w.heap.size := ⟨_, rfl⟩
  rw [← hbx] at hB
  have HV := Lib.hid (hV.keep hkb)
  have HP := Lib.hid (hP.kp hkb)
  have HLg := Lib.hid (long_any wb nm a0 a1 al n0 c0 n1 c1 nl cl b0 b1 ls HP.out.i0 HP.out.i1 HP.out.il)
  have HKn := Lib.hid (fun w' (h : Kp wb w') => knownG_any w' E mx (HV.out.keep h))
  have Hkb := Lib.hid hkb
  have HB := Lib.hid hB
  obtain ⟨y0, y1, y2, y3⟩ := hB
  clear hV hP hkb
  go_enter Tryd.func6, Tryd.ntmps6
  go_upto_region 1 with fail
  rw [← hwb, ← hbx]
  clear hwb hbx
  go_wp2_with fail
  (with_reducible refine HLg.out.mono ?_)
  rintro e w1 ⟨bl, rfl, hk1, hsh⟩
  have Hsh := Lib.hid hsh
  clear hsh y0 y1 y2 y3
  cases bl with
  | true =>
    go_wp2_with fail
    go_ret
    exact ⟨rfl, Kp.trans Hkb.out hk1⟩
  | false =>
    have hnl : nl ≤ 200 := (Hsh.out rfl).2.2.1
    have hkA := Kp.new w1 (.cells #[.slice none 0 0, .slice none 0 0, .slice none 0 0, .slice none 0 0] 52)
    have hAr := Arr4.new w1 (fun _ => nilT)
    have hbxl : bx < w1.heap.size := Nat.lt_of_lt_of_le HB.out.lt hk1.size
    go_upto_region 4 with fail
    change Code.wp _ _ _ _ (w1.alloc (.cells #[.slice none 0 0, .slice none 0 0, .slice none 0 0, .slice none 0 0] 52))
    generalize w1.alloc (.cells #[.slice none 0 0, .slice none 0 0, .slice none 0 0, .slice none 0 0] 52) = w2 at *
    obtain ⟨bR, hbR⟩ : ∃ bR, bR = w1.heap.size := ⟨_, rfl⟩
    rw [← hbR] at hAr ⊢
    have hbRx : bx < bR := by omega
    have hk2 := Kp.trans hk1 hkA
    have hs2 : wb.heap.size ≤ bR := by have := hk1.size; omega
    clear hbR hkA hk1 hbxl
    obtain ⟨y0, y1, y2, y3⟩ := HB.out.kp hk2
    by_cases hc : codeL b0 b1 ls more = 0
    · obtain ⟨hck, m, rfl, hm⟩ := codeL_zero hc
      have h2 := two_of_check hck
      have HLv := Lib.hid (fun w' (h : Kp wb w') => levels_fine (HV.out.keep h) (HP.out.kp h) (by omega) nm c0 c1 cl m hm hck)
      clear hc hck
      go_wp2_with fail
      (with_reducible refine (HLv.out w2 hk2).mono ?_)
      rintro e w3 ⟨hk3, ao, n, cap, rfl, hG⟩
      clear y0 y1 y2 y3
      have hlen : (Q.levelsT ls m).length = n := hG.2
      have hn0 : 0 < n := by rw [← hlen, Q.levelsT_length]; have := h2.pos; omega
      have hn300 : n ≤ 300 := by rw [← hlen, Q.levelsT_length, Hll.out]; omega
      generalize Q.levelsT ls m = gs at *
      have hF0 := (Fam.zero w2 w2.heap.size (fun _ => nilT) (fun _ => gs) [bR, bx]).add (t := ⟨ao, n, cap⟩) hk3 hG (Nat.le_refl _) (fun x hx => by have := hAr.lt; simp at hx; omega)
      rw [updN_const] at hF0
      have hAr3 := hAr.kp hk3
      have hk23 := Kp.trans hk2 hk3
      have hkn := Kp.new w3 (.cells #[] 48)
      have hbs : n * 24 ≤ 140737488355328 := by omega
      go_upto_region 7 with fail
      go_upto_region 8 with (at_builtin; go_loud (refine wpList_app rfl (.tmp 36) (.tmp 37) 30 rfl el30 w3.heap.size rfl (Own.empty w3) rfl (gs.flatMap grc) (by rw [grc_length, hlen]) (hG.keep hkn).1.cs (grc_one gs) n (by omega) (gs.flatMap grc) rfl hbs hkn.size ?_); intro aw cw w4 ha)
      have hF34 : Fr [] w3 w4 := ((Fr.of_kp hkn).step ha.fr (fun x hx => .inr (by simpa [blkL, blk] using Nat.le_of_eq (Eq.symm (by simpa [blkL, blk] using hx)))))
      have hk34 := hF34.kp
      obtain ⟨bS, _, rfl, hbS, _, _⟩ := ha.own.block hn0
      have hW4 : GrO w4 w3.heap.size (some ⟨bS, 0, none⟩) n cw gs := ⟨ha.own, hlen⟩
      have hF4 := (hF0.apart bS hbS).kp hk34
      have hA4 := hAr3.kp hk34
      have hk24 := Kp.trans hk23 hk34
      have hB3 : w2.heap.size ≤ bS := Nat.le_trans hk3.size hbS
      have hBr : bR < w2.heap.size := hAr.lt
      have hbB : wb.heap.size ≤ w2.heap.size := hk2.size
      clear hF34 ha hkn hAr3 hF0 hk34 hG hbs
      obtain ⟨v0, hv0, hf0⟩ := hA4.any 0 (by omega)
      have hA5 := Lib.hid (hA4.set (i := 0) (by omega) ⟨ao, n, cap⟩ 1 (fun j hj => by omega))
      have hS5 := Fr.set w4 ⟨bR, 0, none⟩ (.slice ao n cap)
      have hF5 := Lib.hid (hF4.fr hS5 (by simp))
      have hW5 := Lib.hid (hW4.fr hS5 (fun x hx hq => by simp only [List.mem_singleton] at hq; simp [blkL, blk] at hx; omega))
      have hK5 := Lib.hid ((Fr.of_kp hk24).step hS5 (fun x hx => .inr (by simp only [List.mem_singleton] at hx; omega))).kp
      clear hA4 hF4 hW4 hS5 hk24 hk23
      go_wp2_with fail
      have hA := hA5.out
      have hF := hF5.out
      have hW := hW5.out
      have hK := hK5.out
      clear hA5 hF5 hW5 hK5 hv0 hf0
      change Code.wp _ _ _ _ (w4.setCell ⟨bR, 0, none⟩ (.slice ao n cap))
      generalize w4.setCell ⟨bR, 0, none⟩ (.slice ao n cap) = w5 at *
      have hX := HB.out.kp hK
      obtain ⟨B, hBd⟩ : ∃ B, B = w2.heap.size := ⟨_, rfl⟩
      rw [← hBd] at hF hB3 hBr hbB
      obtain ⟨Bs, hBs⟩ : ∃ Bs, Bs = w3.heap.size := ⟨_, rfl⟩
      rw [← hBs] at hW hbS
      clear hBd hBs hAr hk2 hk3
      have Hgs := Lib.hid hlen
      have h1n : ∀ j, j < 1 → (updN (fun _ => nilT) 0 (⟨ao, n, cap⟩ : Tv) j).n = n := fun j hj => by
        obtain rfl : j = 0 := by omega
        rfl
      obtain ⟨w50, hw50⟩ : ∃ w50 : World, w50 = w5 := ⟨_, rfl⟩
      go_loopw [9] (fun i wr => ∃ (k : Nat) (f : Nat → Tv), 1 ≤ k ∧ k ≤ 4 ∧ i = .int .i64 (k : Nat) ∧ Arr4 wr bR k f ∧ Fam wr B k f f (fun _ => gs) (fun _ => gs) [bS, bR, bx] ∧ (∀ j, j < k → (f j).n = n) ∧ GrO wr Bs (some ⟨bS, 0, none⟩) n cw gs ∧ Bx wr bx nm a0 a1 al n0 c0 n1 c1 nl cl ∧ Kp wb wr) (fun i _ => 4 - (intOf i).toNat)
      case atStart => exact ⟨1, updN (fun _ => nilT) 0 ⟨ao, n, cap⟩, by omega, by omega, rfl, hA, hF, h1n, hW, hX, hK⟩
      case round =>
        clear hA hF hW hX hK hw50
        obtain ⟨k, f, hk1, hk4, rfl, hA, hF, hfn, hW, hX, hK⟩ := hrel
        rename World => wr
        by_cases hlt : k < 4
        · have HLk := Lib.hid (HLv.out wr hK)
          have HX := Lib.hid hX
          have hSl := (hW.lt bS (by simp [blkL, blk])).2
          obtain ⟨y0, y1, y2, y3⟩ := hX
          go_wp2_with fail
          (with_reducible refine HLk.out.mono ?_)
          rintro e w6 ⟨hk6, ao6, n6, cap6, rfl, hG6⟩
          obtain rfl : n6 = n := by rw [← hG6.2, ← Hgs.out]
          clear y0 y1 y2 y3
          have hF6 := hF.add (t := ⟨ao6, n6, cap6⟩) hk6 hG6 (by omega) (fun x hx => by
            have h1 := hA.lt
            have h2 := HX.out.lt
            simp only [List.mem_cons, List.not_mem_nil, or_false] at hx
            rcases hx with rfl | rfl | rfl <;> assumption)
          rw [updN_const] at hF6
          have hA6 := hA.kp hk6
          have hW6 := hW.keep hk6
          have hX6 := HX.out.kp hk6
          have hK6 := Kp.trans hK hk6
          clear hA hF hW hK HX HLk hG6 hSl
          obtain ⟨v0, hv0, hf0⟩ := hA6.any k hlt
          have hS7 := Fr.set w6 ⟨bR, k, none⟩ (.slice ao6 n6 cap6)
          have Hfin := Lib.hid (show Arr4 (w6.setCell ⟨bR, k, none⟩ (.slice ao6 n6 cap6)) bR (k + 1) (updN f k ⟨ao6, n6, cap6⟩) ∧ Fam (w6.setCell ⟨bR, k, none⟩ (.slice ao6 n6 cap6)) B (k + 1) (updN f k ⟨ao6, n6, cap6⟩) (updN f k ⟨ao6, n6, cap6⟩) (fun _ => gs) (fun _ => gs) [bS, bR, bx] ∧ (∀ j, j < k + 1 → (updN f k (⟨ao6, n6, cap6⟩ : Tv) j).n = n6) ∧
              GrO (w6.setCell ⟨bR, k, none⟩ (.slice ao6 n6 cap6)) Bs (some ⟨bS, 0, none⟩) n6 cw gs ∧ Bx (w6.setCell ⟨bR, k, none⟩ (.slice ao6 n6 cap6)) bx nm a0 a1 al n0 c0 n1 c1 nl cl ∧ Kp wb (w6.setCell ⟨bR, k, none⟩ (.slice ao6 n6 cap6)) from
            ⟨hA6.set hlt ⟨ao6, n6, cap6⟩ (k + 1) (fun j hj => by omega), hF6.fr hS7 (by simp), fun j hj => by
              by_cases e : j = k
              · subst e; rw [updN_same]
              · rw [updN_other _ _ e]; exact hfn j (by omega),
              hW6.fr hS7 (fun x hx hq => by simp only [List.mem_singleton] at hq; simp [blkL, blk] at hx; omega), hX6.fr hS7 (by simp; omega), ((Fr.of_kp hK6).step hS7 (fun x hx => .inr (by simp only [List.mem_singleton] at hx; omega))).kp⟩)
          clear hA6 hF6 hW6 hX6 hK6 hS7
          go_wp2_with fail
          clear hv0 hf0
          go_roundw
          case rel => exact ⟨k + 1, _, by omega, by omega, by go_num, Hfin.out⟩
          case measure => simp [intOf]; omega
        · obtain rfl : k = 4 := by omega
          have hSt : Stay wr wb bx nm a0 a1 al n0 c0 n1 c1 nl cl bR f Bs bS n cw gs := ⟨hX, hA, hW, hK⟩
          have Hfn := Lib.hid hfn
          clear hX hA hW hK hfn
          go_wp2_with fail
          obtain ⟨w60, hw60⟩ : ∃ w60 : World, w60 = wr := ⟨_, rfl⟩
          have HSt := Lib.hid hSt
          have HFm := Lib.hid hF
          rw [← hw60] at HSt HFm
          clear hSt hF
          go_loopw [10] (fun i wv => ∃ q : Nat, q ≤ 4 ∧ i = .int .i64 (q : Nat) ∧ Kp w60 wv) (fun i _ => 4 - (intOf i).toNat)
          case atStart => exact ⟨0, by omega, rfl, hw60 ▸ Kp.refl _⟩
          case round =>
            clear hw60
            obtain ⟨q, hq4, rfl, hkv⟩ := hrel
            rename World => wv
            by_cases hq : q < 4
            · have hcq := hkv.cell (HSt.out.ar.cell q hq)
              have hoq := (HFm.out.own q hq).grs
              rw [Hfn.out q hq] at hcq hoq
              have HGr := Lib.hid (grades_any wv (f q).ao (some ⟨bS, 0, none⟩) n n (f q).c cw gs gs (hkv.grs hoq) (hkv.grs HSt.out.wt.grs))
              rw [show alikeG gs gs = true by unfold alikeG; simp] at HGr
              clear hoq
              generalize f q = tq at hcq HGr
              go_wp2_with fail
              (with_reducible refine HGr.out.mono ?_)
              rintro e w6 ⟨rfl, hk6⟩
              clear hcq
              go_wp2_with fail
              go_roundw
              case rel => exact ⟨q + 1, by omega, by go_num, Kp.trans hkv hk6⟩
              case measure => simp [intOf]; omega
            · obtain rfl : q = 4 := by omega
              rw [show ((4 : Nat) : Int) = 4 from rfl]
              have hSv := HSt.out.keep hkv
              have hFv := HFm.out.kp hkv
              rw [← cI_zero n gs] at hFv
              clear HSt HFm hkv
              go_wp2_with fail
              obtain ⟨w70, hw70⟩ : ∃ w70 : World, w70 = wv := ⟨_, rfl⟩
              go_loopw [11] (fun i wr => ∃ q : Nat, q ≤ 4 ∧ i = .int .i64 (q : Nat) ∧ Fam wr B 4 f f (cI n q gs) (cI n q gs) [bS, bR, bx] ∧ Stay wr wb bx nm a0 a1 al n0 c0 n1 c1 nl cl bR f Bs bS n cw gs) (fun i _ => 4 - (intOf i).toNat)
              case atStart => exact ⟨0, by omega, rfl, hFv, hSv⟩
              case round =>
                clear hFv hSv hw70
                obtain ⟨q, hq4, rfl, hF, hS⟩ := hrel
                rename World => wr
                by_cases hq : q < 4
                · rw [← cI_start n q gs] at hF
                  have Hfq := Lib.hid (Hfn.out q hq)
                  go_wp2_with fail
                  obtain ⟨w80, hw80⟩ : ∃ w80 : World, w80 = wr := ⟨_, rfl⟩
                  go_loopw [12] (fun i wr => ∃ k : Nat, k ≤ n ∧ i = .int .i64 (k : Nat) ∧ Fam wr B 4 f f (updN (cI n q gs) q (List.replicate k (mk1 q) ++ gs.drop k)) (updN (cI n q gs) q (List.replicate k (mk1 q) ++ gs.drop k)) [bS, bR, bx] ∧ Stay wr wb bx nm a0 a1 al n0 c0 n1 c1 nl cl bR f Bs bS n cw gs) (fun i _ => n - (intOf i).toNat)
                  case atStart => exact ⟨0, by omega, rfl, hF, hS⟩
                  case round =>
                    clear hF hS hw80
                    obtain ⟨k, hk, rfl, hF, hS⟩ := hrel
                    rename World => wv
                    have hcq := hS.ar.cell q hq
                    rw [Hfq.out] at hcq
                    by_cases hkn : k < n
                    · obtain ⟨g, x, y, z, hg, hx, hy, hz, gx, gy, gz⟩ := hF.at hq (k := k) (by rw [Hfq.out]; exact hkn)
                      have hst := hF.store hq (k := k) (by rw [updN_same, List.length_append, List.length_replicate, List.length_drop, Hgs.out]; omega) hg (mk1 q)
                      rw [updN_again, updN_same, set_mark (by rw [Hgs.out]; exact hkn)] at hst
                      have hsp := hF.sep q g hq (.inl (by rw [hg]; simp [blkL, blk]))
                      have Hfin := Lib.hid (And.intro hst.1 (hS.fr hst.2 (fun x hx => by
                        simp only [List.mem_singleton] at hx
                        subst hx
                        exact ⟨hsp.1, by have := hsp.2.1; omega⟩)))
                      rw [hg] at hcq
                      clear hF hS hst hsp hg
                      go_wp2_with fail
                      clear hx hy hz gx gy gz hcq
                      go_roundw
                      case rel => exact ⟨k + 1, by omega, by go_num, Hfin.out⟩
                      case measure => simp [intOf]; omega
                    · obtain rfl : k = n := by omega
                      rw [cI_next q Hgs.out] at hF
                      go_wp2_with fail
                      clear hcq
                      go_roundw
                      case rel => exact ⟨q + 1, by omega, by go_num, hF, hS⟩
                      case measure => simp [intOf]; omega
                · obtain rfl : q = 4 := by omega
                  rw [show ((4 : Nat) : Int) = 4 from rfl]
                  have hFm := hF.congr (cR' := cM n) (cW' := cE n 0) (fun j hj => cI_all hj) (fun j hj => by rw [cE_zero]; exact cI_all hj)
                  have hkA := Kp.new wr (.cells #[.slice none 0 0, .slice none 0 0, .slice none 0 0, .slice none 0 0] 52)
                  have hWd := Arr4.new wr f
                  go_upto_region 26 with fail
                  change Code.wp _ _ _ _ (wr.alloc (.cells #[.slice none 0 0, .slice none 0 0, .slice none 0 0, .slice none 0 0] 52))
                  have hFw := (hFm.apart wr.heap.size (Nat.le_refl _)).kp hkA
                  have hSw := hS.keep hkA
                  have hbW : wb.heap.size ≤ wr.heap.size ∧ bS < wr.heap.size ∧ bR < wr.heap.size ∧ bx < wr.heap.size := ⟨hS.kp.size, (hS.wt.lt bS (by simp [blkL, blk])).2, hS.ar.lt, hS.bx.lt⟩
                  generalize wr.alloc (.cells #[.slice none 0 0, .slice none 0 0, .slice none 0 0, .slice none 0 0] 52) = w8 at *
                  generalize wr.heap.size = bW at *
                  clear hF hS hFm hkA
                  go_wp2_with fail
                  obtain ⟨w90, hw90⟩ : ∃ w90 : World, w90 = w8 := ⟨_, rfl⟩
                  go_loopw [14] (fun i wr => ∃ (q : Nat) (h : Nat → Tv), q ≤ 4 ∧ i = .int .i64 (q : Nat) ∧ Fam wr B 4 f h (cM n) (cE n q) [bW, bS, bR, bx] ∧ Arr4 wr bW q h ∧ (∀ j, q ≤ j → h j = f j) ∧ (∀ j, j < q → (h j).n = n + 70) ∧ Stay wr wb bx nm a0 a1 al n0 c0 n1 c1 nl cl bR f Bs bS n cw gs) (fun i _ => 4 - (intOf i).toNat)
                  case atStart => exact ⟨0, f, by omega, rfl, hFw, hWd, fun j _ => rfl, fun j hj => absurd hj (by omega), hSw⟩
                  case round =>
                    clear hFw hWd hSw hw90
                    obtain ⟨q, h, hq4, rfl, hF, hA, hhf, hhn, hS⟩ := hrel
                    rename World => wr
                    by_cases hq : q < 4
                    · have hcq := hS.ar.cell q hq
                      rw [Hfn.out q hq] at hcq
                      obtain ⟨v0, hv0, hf0⟩ := hA.any q hq
                      have hst := Fr.set wr ⟨bW, q, none⟩ (.slice (f q).ao n (f q).c)
                      have hA2 := hA.set hq (f q) (q + 1) (fun j hj => by omega)
                      rw [updN_self h q (f q) (hhf q (Nat.le_refl _)).symm, Hfn.out q hq] at hA2
                      have hF2 := hF.fr hst (by simp)
                      rw [← cE_start n q] at hF2
                      have hS2 := hS.fr hst (fun x hx => by
                        simp only [List.mem_singleton] at hx
                        subst hx
                        exact ⟨by simp; omega, hbW.1⟩)
                      have hq0 : (h q).n = n + 0 := by rw [hhf q (Nat.le_refl _)]; exact Hfn.out q hq
                      have Hfin := Lib.hid (show Fam _ B 4 f h (cM n) _ [bW, bS, bR, bx] ∧ Arr4 _ bW (q + 1) h ∧ (∀ j, q < j → h j = f j) ∧ (∀ j, j < q → (h j).n = n + 70) ∧ (h q).n = n + 0 ∧ Stay _ wb bx nm a0 a1 al n0 c0 n1 c1 nl cl bR f Bs bS n cw gs from
                        ⟨hF2, hA2, fun j hj => hhf j (by omega), hhn, hq0, hS2⟩)
                      clear hF hA hS hst hA2 hF2 hS2 hq0 hhf hhn
                      generalize f q = tf at hcq hv0 hf0 Hfin
                      have hqd : decide ((q : Int) < 4) = true := by simp; omega
                      go_wp2_with fail
                      try rw [hqd]
                      clear hqd
                      have hfin := Hfin.out
                      clear Hfin hcq hv0 hf0
                      generalize hwz : wr.setCell ⟨bW, q, none⟩ (.slice tf.ao n tf.c) = wz at *
                      go_loopw [15] (fun i wr => ∃ (k : Nat) (h : Nat → Tv), k ≤ 70 ∧ i = .int .i64 (k : Nat) ∧ Fam wr B 4 f h (cM n) (updN (cE n q) q (cM n q ++ List.replicate k (mk2 q))) [bW, bS, bR, bx] ∧ Arr4 wr bW (q + 1) h ∧ (∀ j, q < j → h j = f j) ∧ (∀ j, j < q → (h j).n = n + 70) ∧ (h q).n = n + k ∧ Stay wr wb bx nm a0 a1 al n0 c0 n1 c1 nl cl bR f Bs bS n cw gs) (fun i _ => 70 - (intOf i).toNat)
                      case atStart => exact ⟨0, h, by omega, rfl, hfin⟩
                      case round =>
                        clear hfin hwz
                        obtain ⟨k, h, hk, rfl, hF, hA, hhf, hhn, hhq, hS⟩ := hrel
                        rename World => wv
                        by_cases hkn : k < 70
                        · have hcq := hA.cell q (by omega)
                          rw [hhq] at hcq
                          have hkN := Kp.new wv (.cells #[iv (200 + (q : Int)), iv 0, iv 0] 48)
                          have hown := ((hF.own q hq).keep hkN).1
                          rw [hhq, updN_same] at hown
                          have hbWq : bW ∉ blkL (h q).ao := fun hx => (hF.sep q bW hq (.inr hx)).1 (by simp)
                          have hZl : ∀ x ∈ [bW, bS, bR, bx], x < wv.heap.size := fun x hx => by
                            have h1 := hA.lt
                            have h2 := (hS.wt.lt bS (by simp [blkL, blk])).2
                            have h3 := hS.ar.lt
                            have h4 := hS.bx.lt
                            simp only [List.mem_cons, List.not_mem_nil, or_false] at hx
                            rcases hx with rfl | rfl | rfl | rfl <;> assumption
                          have hBv : B ≤ (wv.alloc (.cells #[iv (200 + (q : Int)), iv 0, iv 0] 48)).heap.size := by
                            have h2 := (hS.wt.lt bS (by simp [blkL, blk])).2
                            have := hkN.size
                            omega
                          have hby : (n + k + 1) * 24 ≤ 140737488355328 := by omega
                          have hqi : (q : Int) ≤ 4 := by omega
                          have HAp := Lib.hid (fun (ao' : Option Addr) (cap' : Nat) (w' : World) (ha : Appd (wv.alloc (.cells #[iv (200 + (q : Int)), iv 0, iv 0] 48)) w' B 48 3 (h q).ao (h q).c 1 (n + k + 1) ((updN (cE n q) q (cM n q ++ List.replicate k (mk2 q)) q ++ [mk2 q]).flatMap grc) ao' cap') => hF.app hq hZl (u := mk2 q) (by rw [hhq]) hkN ha)
                          have HA := Lib.hid (fun (w' : World) (hf : Fr (blkL (h q).ao) wv w') => hA.fr hf hbWq)
                          rw [updN_same] at HAp
                          clear hhq
                          generalize htq : h q = tq at *
                          go_wp2_with (at_builtin; go_loud (refine wpList_app rfl (.tmp 99) (.tmp 103) 30 rfl el30 B rfl hown rfl (grc (mk2 q)) rfl (Cs.new wv [iv (200 + (q : Int)), iv 0, iv 0] 48 (0, 0)) (by simpa using grc_one [mk2 q]) (n + k + 1) rfl ((cM n q ++ List.replicate k (mk2 q) ++ [mk2 q]).flatMap grc) (by simp) hby hBv ?_); intro ao2 cap2 w9 ha; have hap := HAp.out ao2 cap2 w9 ha; obtain ⟨v0, hv0, hf0⟩ := (HA.out w9 hap.2).any q hq)
                          clear hv0 hf0 hcq hown hby hBv
                          have hst := Fr.set w9 ⟨bW, q, none⟩ (.slice ao2 (n + k + 1) cap2)
                          have hap1 := hap.1
                          rw [updN_again, List.append_assoc, ← List.replicate_succ'] at hap1
                          have hsp : ∀ x ∈ blkL tq.ao, x ∉ [bS, bR, bx] ∧ wb.heap.size ≤ x := fun x hx => by
                            have := hF.sep q x hq (.inr (by rw [htq]; exact hx))
                            exact ⟨fun hm => this.1 (List.mem_cons_of_mem _ hm), by omega⟩
                          have hA2 := (HA.out w9 hap.2).set hq ⟨ao2, n + k + 1, cap2⟩ (q + 1) (fun j hj => by omega)
                          have hS2 := (hS.fr hap.2 hsp).fr hst (fun x hx => by
                            simp only [List.mem_singleton] at hx
                            subst hx
                            exact ⟨by simp; omega, hbW.1⟩)
                          have hF2 := hap1.fr hst (by simp)
                          clear ha hap hap1 hst hsp HAp HA hF hA hS
                          go_roundw
                          case rel => exact ⟨k + 1, _, by omega, by go_num, hF2, hA2, fun j hj => (updN_other _ _ (by omega)).trans (hhf j hj), fun j hj => by rw [updN_other _ _ (by omega)]; exact hhn j hj, by rw [updN_same]; show n + k + 1 = n + (k + 1); omega, hS2⟩
                          case measure => simp [intOf]; omega
                        · obtain rfl : k = 70 := by omega
                          rw [cE_next n q] at hF
                          rw [show ((70 : Nat) : Int) = 70 from rfl]
                          have hh1 : ∀ j, q + 1 ≤ j → h j = f j := fun j hj => hhf j (by omega)
                          have hh2 : ∀ j, j < q + 1 → (h j).n = n + 70 := fun j hj => by
                            by_cases e : j = q
                            · rw [e]; exact hhq
                            · exact hhn j (by omega)
                          clear hhf hhn hhq
                          go_wp2_with fail
                          go_roundw
                          case rel => exact ⟨q + 1, h, by omega, by go_num, hF, hA, hh1, hh2, hS⟩
                          case measure => simp [intOf]; omega
                    · obtain rfl : q = 4 := by omega
                      rw [show ((4 : Nat) : Int) = 4 from rfl]
                      have Hrow := Lib.hid (show ∀ q k, q < 4 → k < n → ∃ b off, (f q).ao = some ⟨b, off, none⟩ ∧ wr.cell? ⟨b, off + k * 3, none⟩ = some (iv (100 + (q : Int))) ∧ wr.cell? ⟨b, off + k * 3 + 1, none⟩ = some (iv 0) ∧ wr.cell? ⟨b, off + k * 3 + 2, none⟩ = some (iv 0) from fun q k hq hk =>
                        row_cell (u := mk1 q) (n := n) (gs := cM n q) ⟨by simp [cM], by unfold maxLen; omega, hF.row q hq⟩ hk ⟨by simpa [cM] using hk, by simp [cM]⟩)
                      have Hwid := Lib.hid (show ∀ q k, q < 4 → k < n + 70 → ∃ b off, (h q).ao = some ⟨b, off, none⟩ ∧ wr.cell? ⟨b, off + k * 3, none⟩ = some (iv (if k < n then 100 + (q : Int) else 200 + (q : Int))) ∧ wr.cell? ⟨b, off + k * 3 + 1, none⟩ = some (iv 0) ∧ wr.cell? ⟨b, off + k * 3 + 2, none⟩ = some (iv 0) from fun q k hq hk => by
                        have hw := row_cell (u := if k < n then mk1 q else mk2 q) (hF.own q hq).grs (k := k) (by rw [hhn q hq]; exact hk) (cE_get hq hk)
                        by_cases hkn : k < n
                        · rw [if_pos hkn] at hw ⊢; exact hw
                        · rw [if_neg hkn] at hw ⊢; exact hw)
                      have HrowC := Lib.hid (show ∀ q, q < 4 → wr.cell? ⟨bR, q, none⟩ = some (.slice (f q).ao n (f q).c) from fun q hq => by rw [← Hfn.out q hq]; exact hS.ar.cell q hq)
                      have HwidC := Lib.hid (show ∀ q, q < 4 → wr.cell? ⟨bW, q, none⟩ = some (.slice (h q).ao (n + 70) (h q).c) from fun q hq => by rw [← hhn q hq]; exact hA.cell q hq)
                      have HSt := Lib.hid hS
                      clear hF hA hhf hhn hS Hfn
                      go_wp2_with fail
                      obtain ⟨wA, hwA⟩ : ∃ wA : World, wA = wr := ⟨_, rfl⟩
                      rw [← hwA] at Hrow Hwid HrowC HwidC HSt
                      go_loopw [16] (fun i wr => ∃ q : Nat, q ≤ 4 ∧ i = .int .i64 (q : Nat) ∧ Kp wA wr) (fun i _ => 4 - (intOf i).toNat)
                      case atStart => exact ⟨0, by omega, rfl, hwA ▸ Kp.refl _⟩
                      case round =>
                        clear hwA
                        obtain ⟨q, hq4, rfl, hkv⟩ := hrel
                        rename World => wv
                        by_cases hq : q < 4
                        · have hrc := HrowC.out q hq
                          have hwc := HwidC.out q hq
                          have Hr := Lib.hid (fun k hk => Hrow.out q k hq hk)
                          have Hw := Lib.hid (fun k hk => Hwid.out q k hq hk)
                          generalize f q = tf at hrc Hr
                          generalize h q = th at hwc Hw
                          have hqd : decide ((q : Int) < 4) = true := by simp; omega
                          go_wp2_with fail
                          try rw [hqd]
                          clear hqd
                          obtain ⟨wB, hwB⟩ : ∃ wB : World, wB = wv := ⟨_, rfl⟩
                          go_loopw [17] (fun i wr => ∃ k : Nat, k ≤ n + 70 ∧ i = .int .i64 (k : Nat) ∧ Kp wA wr) (fun i _ => n + 70 - (intOf i).toNat)
                          case atStart => exact ⟨0, by omega, rfl, hkv⟩
                          case round =>
                            clear hkv hwB
                            obtain ⟨k, hk, rfl, hkv⟩ := hrel
                            rename World => wC
                            have hwc0 := hkv.cell hwc
                            by_cases hkn : k < n + 70
                            · have hkN := Kp.new wC (.cells #[iv (100 + (q : Int)), iv 0, iv 0] 48)
                              have hT := Thr.new wC (iv (100 + (q : Int))) (iv 0) (iv 0) 48
                              have hkn' : (k : Int) < ((n + 70 : Nat) : Int) := by omega
                              go_upto_region 41 with fail
                              change Code.wp _ _ _ _ (wC.alloc (.cells #[iv (100 + (q : Int)), iv 0, iv 0] 48))
                              generalize wC.alloc (.cells #[iv (100 + (q : Int)), iv 0, iv 0] 48) = wD at *
                              obtain ⟨bg, hbg⟩ : ∃ bg, bg = wC.heap.size := ⟨_, rfl⟩
                              rw [← hbg] at hT ⊢
                              have hbgA : wA.heap.size ≤ bg := by have := hkv.size; omega
                              have hkD := Kp.trans hkv hkN
                              clear hbg hkN hkv hwc0
                              obtain ⟨b, off, hao, x0, x1, x2⟩ := Hw.out k hkn
                              have hwD := hkD.cell hwc
                              have hrD := hkD.cell hrc
                              rw [hao] at hwD
                              have Hx := Lib.hid (And.intro x0 (And.intro x1 x2))
                              replace x0 := hkD.cell x0
                              replace x1 := hkD.cell x1
                              replace x2 := hkD.cell x2
                              by_cases hn' : k < n
                              · rw [if_pos hn'] at x0
                                obtain ⟨b2, off2, hao2, z0, z1, z2⟩ := Hr.out k hn'
                                rw [hao2] at hrD
                                replace z0 := hkD.cell z0
                                replace z1 := hkD.cell z1
                                replace z2 := hkD.cell z2
                                obtain ⟨g0, g1, g2, _, _, _⟩ := hT
                                have hne := fun w' => neqM w' (100 + (q : Int))
                                have hd1 : decide ((n : Int) ≤ (k : Int)) = false := by simp; omega
                                have hd2 : decide ((k : Int) < (n : Int)) = true := by simp; omega
                                go_upto_region 43 with fail
                                go_wp2_with fail
                                go_quiet (fail)
                                generalize hwn : wD.drewN nq = wn
                                have hkE : Kp wD wn := hwn ▸ Kp.of_drewN wD nq
                                clear hwn
                                go_wp2_with fail
                                clear g0 g1 g2 x0 x1 x2 z0 z1 z2 hwD hrD hne hd1 hd2
                                go_roundw
                                case rel => exact ⟨k + 1, by omega, by go_num, Kp.trans hkD hkE⟩
                                case measure => simp [intOf]; omega
                              · clear x0 x1 x2
                                have hd1 : decide ((n : Int) ≤ (k : Int)) = true := by simp; omega
                                have hd2 : decide ((k : Int) < (n : Int)) = false := by simp; omega
                                have hd0 : (n : Int) ≤ (k : Int) := by omega
                                have hT2 := ((hT.set0 (iv (200 + (q : Int)))).set1 (iv 0)).set2 (iv 0)
                                have hFb := ((Fr.set wD ⟨bg, 0, none⟩ (iv (200 + (q : Int)))).trans (Fr.set _ ⟨bg, 1, none⟩ (iv 0))).trans (Fr.set _ ⟨bg, 2, none⟩ (iv 0))
                                have Hfin := Lib.hid (And.intro hT2 (show Kp wA _ from ((Fr.of_kp hkD).step hFb (fun x hx => .inr (by simp only [List.mem_singleton] at hx; omega))).kp))
                                obtain ⟨g0, g1, g2, gf0, gf1, gf2⟩ := hT
                                clear hT2 hFb
                                go_upto_region 43 with fail
                                obtain ⟨hT2, hkE⟩ := Hfin.out
                                clear Hfin g0 g1 g2 gf0 gf1 gf2 hwD hrD hkD
                                change Code.wp _ _ _ _ (((wD.setCell ⟨bg, 0, none⟩ (iv (200 + (q : Int)))).setCell ⟨bg, 1, none⟩ (iv 0)).setCell ⟨bg, 2, none⟩ (iv 0))
                                generalize ((wD.setCell ⟨bg, 0, none⟩ (iv (200 + (q : Int)))).setCell ⟨bg, 1, none⟩ (iv 0)).setCell ⟨bg, 2, none⟩ (iv 0) = wE at *
                                obtain ⟨x0, x1, x2⟩ := Hx.out
                                rw [if_neg hn'] at x0
                                replace x0 := hkE.cell x0
                                replace x1 := hkE.cell x1
                                replace x2 := hkE.cell x2
                                have hwD := hkE.cell hwc
                                have hrD := hkE.cell hrc
                                rw [hao] at hwD
                                obtain ⟨g0, g1, g2, _, _, _⟩ := hT2
                                have hne := fun w' => neqM w' (200 + (q : Int))
                                go_wp2_with fail
                                go_quiet (fail)
                                generalize hwn : wE.drewN nq = wn
                                have hkF : Kp wE wn := hwn ▸ Kp.of_drewN wE nq
                                clear hwn
                                go_wp2_with fail
                                clear g0 g1 g2 x0 x1 x2 hwD hrD hne hd1 hd2
                                go_roundw
                                case rel => exact ⟨k + 1, by omega, by go_num, Kp.trans hkE hkF⟩
                                case measure => simp [intOf]; omega
                            · obtain rfl : k = n + 70 := by omega
                              clear hrc hwc
                              go_wp2_with fail
                              clear hwc0
                              go_roundw
                              case rel => exact ⟨q + 1, by omega, by go_num, hkv⟩
                              case measure => simp [intOf]; omega
                        · obtain rfl : q = 4 := by omega
                          rw [show ((4 : Nat) : Int) = 4 from rfl]
                          have hSv := HSt.out.keep hkv
                          obtain ⟨y0, y1, y2, y3⟩ := hSv.bx
                          have HLk := Lib.hid (HLv.out wv hSv.kp)
                          have HSv := Lib.hid hSv
                          clear hSv hkv
                          go_wp2_with fail
                          (with_reducible refine HLk.out.mono ?_)
                          rintro e w6 ⟨hk6, ao6, n6, cap6, rfl, hG6⟩
                          clear y0 y1 y2 y3
                          have HGr := Lib.hid (grades_any w6 ao6 (some ⟨bS, 0, none⟩) n6 n cap6 cw gs gs hG6.grs (hk6.grs HSv.out.wt.grs))
                          rw [show alikeG gs gs = true by unfold alikeG; simp] at HGr
                          have HK6 := Lib.hid (Kp.trans HSv.out.kp hk6)
                          clear hG6 hk6
                          go_wp2_with fail
                          (with_reducible refine HGr.out.mono ?_)
                          rintro e w7 ⟨rfl, hk7⟩
                          have HK7 := Lib.hid (Kp.trans HK6.out hk7)
                          go_wp2_with fail
                          (with_reducible refine (HKn.out w7 HK7.out).mono ?_)
                          rintro e w8 ⟨rfl, hk8⟩
                          go_wp2_with fail
                          go_ret
                          exact ⟨rfl, Kp.trans Hkb.out (Kp.trans HK7.out hk8)⟩
    · have HLv := Lib.hid (levels_bad (HV.out.keep hk2) (HP.out.kp hk2) (by omega) nm c0 c1 cl more hc)
      clear hc
      generalize codeL b0 b1 ls more = cc at *
      go_wp2_with fail
      (with_reducible refine HLv.out.mono ?_)
      rintro e w3 ⟨hk3, rfl⟩
      clear y0 y1 y2 y3
      have hk13 := Kp.trans hk2 hk3
      go_wp2_with fail
      (with_reducible refine (HKn.out w3 hk13).mono ?_)
      rintro e w4 ⟨rfl, hk4⟩
      go_wp2_with fail
      go_ret
      exact ⟨rfl, Kp.trans Hkb.out (Kp.trans hk13 hk4)⟩
end Go.Proofs.YtjbjgpcldcpjmaaDoor
