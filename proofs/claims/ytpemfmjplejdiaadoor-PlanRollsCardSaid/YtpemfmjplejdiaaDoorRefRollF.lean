/- The document's 'Roll', the responder's side. Conditions: the moves lie there (Mvs), each third number is one of 64 bits. -/
import Derived.Test.YtpemfmjplejdiaaDoorGa7
namespace Go.Proofs.YtpemfmjplejdiaaDoor
open Go.RowKit

set_option maxRecDepth 100000 in
set_option maxHeartbeats 8000000 in
theorem refRoll_false (w : World) (lo : Option Addr) (n c : Nat) (ms : List Mv) (hms : Mvs w lo n ms) (hn : n ≤ 1000) (hwf : ∀ m ∈ ms, -9223372036854775808 ≤ m.wth ∧ m.wth ≤ 9223372036854775807) :
    Calls Tryd.prog 20 #[.slice lo n c, .bool false] w (RefRollPost w false ms) := by
  have HMs := Lib.hid hms
  have Hwf := Lib.hid hwf
  have Hml := Lib.hid hms.1
  clear hms hwf
  have hk0 := Kp.new w (.cells #[.string ⟨#[]⟩, .slice none 0 0, .slice none 0 0, .slice none 0 0] 26)
  have hR0 := Free4.of w (.string ⟨#[]⟩) (.slice none 0 0) (.slice none 0 0) (.slice none 0 0) 26
  have hs0 : w.heap.size < (w.alloc (.cells #[.string ⟨#[]⟩, .slice none 0 0, .slice none 0 0, .slice none 0 0] 26)).heap.size := by simp
  go_enter Tryd.func20, Tryd.ntmps20
  go_upto_region 4 with fail
  obtain ⟨br, hbr⟩ : ∃ br, br = w.heap.size := ⟨_, rfl⟩
  rw [← hbr]
  rw [← hbr] at hR0 hs0
  generalize w.alloc (.cells #[.string ⟨#[]⟩, .slice none 0 0, .slice none 0 0, .slice none 0 0] 26) = w1 at *
  have hb0 : w.heap.size ≤ br := by omega
  clear hbr
  have hA := At4.new w1 ⟨#[]⟩
  have hkA := Kp.new w1 (.cells #[.string ⟨#[]⟩, .slice none 0 0, .slice none 0 0, .slice none 0 0] 26)
  have hsA : w1.heap.size < (w1.alloc (.cells #[.string ⟨#[]⟩, .slice none 0 0, .slice none 0 0, .slice none 0 0] 26)).heap.size := by simp
  go_wp2_with fail
  obtain ⟨bp, hbp⟩ : ∃ bp, bp = w1.heap.size := ⟨_, rfl⟩
  rw [← hbp]
  rw [← hbp] at hA hsA hs0
  generalize w1.alloc (.cells #[.string ⟨#[]⟩, .slice none 0 0, .slice none 0 0, .slice none 0 0] 26) = w2 at *
  obtain ⟨B, hB⟩ : ∃ B, B = w2.heap.size := ⟨_, rfl⟩
  have hL : Lay20 w B br bp := ⟨hb0, hs0, by omega⟩
  have hMem : Mem20 w w2 B br bp nilT nilT nilT [] initP := ⟨PatO.nil w2 _, hA, hR0.fr (Fr.of_kp hkA) (by simp), Kp.trans hk0 hkA, by omega⟩
  clear hbp hkA hA hR0 hk0 hB hsA hs0 hb0
  have hbB : bp < B := hL.2.2
  go_loopw [8] (fun i wr => ∃ (k : Nat) (t0 t1 tl : Tv) (ts : List Tv) (p : Pt), k ≤ n ∧ i = .int .i64 (k : Nat) ∧ Mem20 w wr B br bp t0 t1 tl ts p ∧ (ms.take k).foldl (rollT false) initP = p ∧ p.1.1.length ≤ k ∧ p.1.2.length ≤ k ∧ p.2.length ≤ k ∧ ∀ l ∈ p.2, l.2.length ≤ k) (fun i _ => n - (intOf i).toNat)
  case atStart => exact ⟨0, _, _, _, _, _, by omega, rfl, hMem, rfl, by decide, by decide, by decide, fun l hl => by simp [initP] at hl⟩
  case round =>
    clear hMem
    obtain ⟨k, t0, t1, tl, ts, p, hk, rfl, hM, hS, hb0, hb1, hb2, hb3⟩ := hrel
    by_cases hlt : k < n
    · obtain ⟨b, off, rfl, hc⟩ := (Kp.mvs hM.kp HMs.out).at k hlt
      obtain ⟨c1, c2, c3⟩ := hc k hlt
      clear hc
      have hkm : k < ms.length := by rw [Hml.out]; exact hlt
      have Hf := Lib.hid (takeT_fold (ini := false) hkm)
      have Hmw := Lib.hid (Hwf.out ms[k] (List.getElem_mem hkm))
      generalize ms[k] = m at c1 c2 c3 Hf Hmw
      obtain ⟨⟨b0, b1⟩, ls⟩ := p
      obtain ⟨ta, tn, tc⟩ := t0
      obtain ⟨ua, un, uc⟩ := t1
      obtain ⟨va, vn, vc⟩ := tl
      have hkx := Kp.new wr (.cells #[iv m.op, iv m.key, iv m.wth] 42)
      have hM2 := hM.drawn hkx
      have hm0 : (wr.alloc (.cells #[iv m.op, iv m.key, iv m.wth] 42)).cell? ⟨wr.heap.size, 0, none⟩ = some (iv m.op) := by rw [World.cell?_alloc_at _ _ _ _ rfl]; rfl
      have hm1 : (wr.alloc (.cells #[iv m.op, iv m.key, iv m.wth] 42)).cell? ⟨wr.heap.size, 1, none⟩ = some (iv m.key) := by rw [World.cell?_alloc_at _ _ _ _ rfl]; rfl
      have hm2 : (wr.alloc (.cells #[iv m.op, iv m.key, iv m.wth] 42)).cell? ⟨wr.heap.size, 2, none⟩ = some (iv m.wth) := by rw [World.cell?_alloc_at _ _ _ _ rfl]; rfl
      have hlen := hM2.pat.len
      have hO := hM2.pat.ol
      have hnl := hM2.pat.nl
      simp only at hlen hO hnl hb0 hb1 hb2 hb3
      have hbt : bp ∉ blkL va := fun hx => by have := (hO.lt bp (mem_blkL.1 hx)).1; omega
      have hby : (vn + 1) * 32 ≤ 140737488355328 := by omega
      obtain ⟨⟨y0, y1, y2, y3⟩, q1, q2, q3⟩ := hM2.at4
      unfold tvv at y1 y2 y3
      simp only at y1 y2 y3
      have HM := Lib.hid hM2
      have Hlen := Lib.hid hlen
      have Hnl := Lib.hid hnl
      have Hb0 := Lib.hid hb0
      have Hb1 := Lib.hid hb1
      have Hb2 := Lib.hid hb2
      have Hb3 := Lib.hid hb3
      have z3 := hM.at4.1.2.2.2
      unfold tvv at z3
      simp only at z3
      clear hM hM2 hlen hnl hb0 hb1 hb2 hb3 hkx
      go_upto_region 10 with fail
      obtain ⟨bm, hbm⟩ : ∃ bm, bm = wr.heap.size := ⟨_, rfl⟩
      rw [← hbm] at hm0 hm1 hm2 ⊢
      clear c1 c2 c3 z3
      generalize wr.alloc (.cells #[iv m.op, iv m.key, iv m.wth] 42) = wm at *
      clear hbm
      by_cases h5 : m.op = 5
      · have g5 : (m.op == 5) = true := by simp [h5]
        have Hf2 := Lib.hid (show (ms.take (k + 1)).foldl (rollT false) initP = ((b0, b1), ls ++ [(1, [])]) by rw [Hf.out, hS]; unfold rollT; rw [if_pos h5]; rfl)
        have hkn := Kp.new wm (.cells #[iv 1, .slice none 0 0] 53)
        have hBw : B ≤ (wm.alloc (.cells #[iv 1, .slice none 0 0] 53)).heap.size := Nat.le_trans HM.out.big hkn.size
        go_wp2_with (at_builtin; refine wpList_app rfl (.tmp 36) (.tmp 39) 24 rfl el24 B rfl (hO.keep hkn) rfl [iv 1, .slice none 0 0] rfl (Cs.new wm [iv 1, .slice none 0 0] 53 (0, 0)) (by simp [Value.oneCell']) (vn + 1) rfl (lnc (ls ++ [(1, [])]) (ts ++ [nilT])) (lnc_append _ _ Hlen.out) hby hBw ?_; intro ao2 cap2 w2 ha; have z0 := Fr.cell ha.fr (Kp.cell hkn y3) hbt; have z1 := Fr.free ha.fr (Kp.cell hkn y3) ((Fr.of_kp hkn).free y3 q3 (by simp)) hbt; have Hm2 := Lib.hid (HM.out.appl hL hkn ha))
        go_roundw
        case rel => exact ⟨k + 1, _, _, _, _, _, by omega, by go_num, Hm2.out, Hf2.out, Nat.le_succ_of_le Hb0.out, Nat.le_succ_of_le Hb1.out, by simp only [List.length_append, List.length_cons, List.length_nil]; have := Hb2.out; omega, fun l hl => by
            rcases List.mem_append.1 hl with q | q
            · exact Nat.le_succ_of_le (Hb3.out l q)
            · simp at q; subst q; simp⟩
        case measure => simp [intOf]; omega
      · have g5 : (m.op == 5) = false := by simp [h5]
        by_cases h6 : m.op = 6
        · have g6 : (m.op == 6) = true := by simp [h6]
          have Hf2 := Lib.hid (show (ms.take (k + 1)).foldl (rollT false) initP = ((b0, b1), ls ++ [(0, [])]) by rw [Hf.out, hS]; unfold rollT; rw [if_neg h5, if_pos h6]; rfl)
          have hkn := Kp.new wm (.cells #[iv 0, .slice none 0 0] 53)
          have hBw : B ≤ (wm.alloc (.cells #[iv 0, .slice none 0 0] 53)).heap.size := Nat.le_trans HM.out.big hkn.size
          go_wp2_with (at_builtin; refine wpList_app rfl (.tmp 47) (.tmp 51) 24 rfl el24 B rfl (hO.keep hkn) rfl [iv 0, .slice none 0 0] rfl (Cs.new wm [iv 0, .slice none 0 0] 53 (0, 0)) (by simp [Value.oneCell']) (vn + 1) rfl (lnc (ls ++ [(0, [])]) (ts ++ [nilT])) (lnc_append _ _ Hlen.out) hby hBw ?_; intro ao2 cap2 w2 ha; have z0 := Fr.cell ha.fr (Kp.cell hkn y3) hbt; have z1 := Fr.free ha.fr (Kp.cell hkn y3) ((Fr.of_kp hkn).free y3 q3 (by simp)) hbt; have Hm2 := Lib.hid (HM.out.appl hL hkn ha))
          go_roundw
          case rel => exact ⟨k + 1, _, _, _, _, _, by omega, by go_num, Hm2.out, Hf2.out, Nat.le_succ_of_le Hb0.out, Nat.le_succ_of_le Hb1.out, by simp only [List.length_append, List.length_cons, List.length_nil]; have := Hb2.out; omega, fun l hl => by
              rcases List.mem_append.1 hl with q | q
              · exact Nat.le_succ_of_le (Hb3.out l q)
              · simp at q; subst q; simp⟩
          case measure => simp [intOf]; omega
        · have g6 : (m.op == 6) = false := by simp [h6]
          have hroll0 : rollT false ((b0, b1), ls) m = (if ls.isEmpty then (if m.op = 3 ∧ 1 ≤ m.key ∧ m.key ≤ 4 then (if 2 < m.key then (addB (b0, b1) (!false) (m.key - 2), ls) else (addB (b0, b1) false m.key, ls)) else ((b0, b1), ls)) else if mvTok false m ≠ 0 then ((b0, b1), addT ls (mvTok false m)) else ((b0, b1), ls)) := by
            unfold rollT
            rw [if_neg h5, if_neg h6]
          clear h5 h6
          rcases List.eq_nil_or_concat ls with hnil | ⟨r, ⟨f, tok⟩, hcon⟩
          · subst hnil
            rw [if_pos (show (([] : List Ln).isEmpty = true) from rfl)] at hroll0
            obtain rfl : vn = 0 := Hnl.out
            by_cases h3 : m.op = 3
            · have g3 : (m.op == 3) = true := by simp [h3]
              by_cases k1 : 1 ≤ m.key
              · by_cases k4 : m.key ≤ 4
                · rw [if_pos ⟨h3, k1, k4⟩] at hroll0
                  by_cases k2 : 2 < m.key
                  · rw [if_pos k2] at hroll0
                    have Hf2 := Lib.hid (show (ms.take (k + 1)).foldl (rollT false) initP = ((b0 ++ [m.key - 2], b1), []) by rw [Hf.out, hS, hroll0]; rfl)
                    clear hroll0 hS h3
                    have hOk := HM.out.pat.o0
                    have hnk := HM.out.pat.n0
                    simp only at hOk hnk
                    have hbk : bp ∉ blkL ta := fun hx => by have := (hOk.lt bp (mem_blkL.1 hx)).1; omega
                    have hbyk : (tn + 1) * 8 ≤ 140737488355328 := by have := Hb0.out; omega
                    have Hnk := Lib.hid hnk
                    clear hnk
                    have hkn := Kp.new wm (.cells #[iv (m.key - 2)] 3)
                    have hBw : B ≤ (wm.alloc (.cells #[iv (m.key - 2)] 3)).heap.size := Nat.le_trans HM.out.big hkn.size
                    go_wp2_with (at_builtin; refine wpList_app rfl (.tmp 105) (.tmp 107) 22 rfl el22 B rfl (hOk.keep hkn) rfl [iv (m.key - 2)] rfl (Cs.new wm [iv (m.key - 2)] 3 (0, 0)) (by simp [Value.oneCell']) (tn + 1) rfl ((b0 ++ [(m.key - 2)]).map iv) (by simp) hbyk hBw ?_; intro ao2 cap2 w2 ha; have z0 := Fr.cell ha.fr (Kp.cell hkn y1) hbk; have z1 := Fr.free ha.fr (Kp.cell hkn y1) ((Fr.of_kp hkn).free y1 q1 (by simp)) hbk; have Hm2 := Lib.hid (HM.out.app0 hL hkn ha))
                    go_roundw
                    case rel => exact ⟨k + 1, _, _, _, _, _, by omega, by go_num, Hm2.out, Hf2.out, by simp only [List.length_append, List.length_cons, List.length_nil]; have := Hb0.out; omega, Nat.le_succ_of_le Hb1.out, by simp, fun l hl => by cases hl⟩
                    case measure => simp [intOf]; omega
                  · rw [if_neg k2] at hroll0
                    have Hf2 := Lib.hid (show (ms.take (k + 1)).foldl (rollT false) initP = ((b0, b1 ++ [m.key]), []) by rw [Hf.out, hS, hroll0]; rfl)
                    clear hroll0 hS h3
                    have hOk := HM.out.pat.o1
                    have hnk := HM.out.pat.n1
                    simp only at hOk hnk
                    have hbk : bp ∉ blkL ua := fun hx => by have := (hOk.lt bp (mem_blkL.1 hx)).1; omega
                    have hbyk : (un + 1) * 8 ≤ 140737488355328 := by have := Hb1.out; omega
                    have Hnk := Lib.hid hnk
                    clear hnk
                    have hkn := Kp.new wm (.cells #[iv m.key] 3)
                    have hBw : B ≤ (wm.alloc (.cells #[iv m.key] 3)).heap.size := Nat.le_trans HM.out.big hkn.size
                    go_wp2_with (at_builtin; refine wpList_app rfl (.tmp 105) (.tmp 107) 22 rfl el22 B rfl (hOk.keep hkn) rfl [iv m.key] rfl (Cs.new wm [iv m.key] 3 (0, 0)) (by simp [Value.oneCell']) (un + 1) rfl ((b1 ++ [m.key]).map iv) (by simp) hbyk hBw ?_; intro ao2 cap2 w2 ha; have z0 := Fr.cell ha.fr (Kp.cell hkn y2) hbk; have z1 := Fr.free ha.fr (Kp.cell hkn y2) ((Fr.of_kp hkn).free y2 q2 (by simp)) hbk; have Hm2 := Lib.hid (HM.out.app1 hL hkn ha))
                    go_roundw
                    case rel => exact ⟨k + 1, _, _, _, _, _, by omega, by go_num, Hm2.out, Hf2.out, Nat.le_succ_of_le Hb0.out, by simp only [List.length_append, List.length_cons, List.length_nil]; have := Hb1.out; omega, by simp, fun l hl => by cases hl⟩
                    case measure => simp [intOf]; omega
                · rw [if_neg (fun h => k4 h.2.2)] at hroll0
                  have hroll := hroll0
                  clear hroll0 h3
                  have Hf2 := Lib.hid (show (ms.take (k + 1)).foldl (rollT false) initP = ((b0, b1), []) by rw [Hf.out, hS, hroll])
                  clear hroll hS
                  go_wp2_with fail
                  go_roundw
                  case rel => exact ⟨k + 1, _, _, _, _, _, by omega, by go_num, HM.out, Hf2.out, Nat.le_succ_of_le Hb0.out, Nat.le_succ_of_le Hb1.out, Nat.le_succ_of_le Hb2.out, fun l hl => Nat.le_succ_of_le (Hb3.out l hl)⟩
                  case measure => simp [intOf]; omega
              · rw [if_neg (fun h => k1 h.2.1)] at hroll0
                have hroll := hroll0
                clear hroll0 h3
                have Hf2 := Lib.hid (show (ms.take (k + 1)).foldl (rollT false) initP = ((b0, b1), []) by rw [Hf.out, hS, hroll])
                clear hroll hS
                go_wp2_with fail
                go_roundw
                case rel => exact ⟨k + 1, _, _, _, _, _, by omega, by go_num, HM.out, Hf2.out, Nat.le_succ_of_le Hb0.out, Nat.le_succ_of_le Hb1.out, Nat.le_succ_of_le Hb2.out, fun l hl => Nat.le_succ_of_le (Hb3.out l hl)⟩
                case measure => simp [intOf]; omega
            · have g3 : (m.op == 3) = false := by simp [h3]
              rw [if_neg (fun h => h3 h.1)] at hroll0
              have hroll := hroll0
              clear hroll0 h3
              have Hf2 := Lib.hid (show (ms.take (k + 1)).foldl (rollT false) initP = ((b0, b1), []) by rw [Hf.out, hS, hroll])
              clear hroll hS
              go_wp2_with fail
              go_roundw
              case rel => exact ⟨k + 1, _, _, _, _, _, by omega, by go_num, HM.out, Hf2.out, Nat.le_succ_of_le Hb0.out, Nat.le_succ_of_le Hb1.out, Nat.le_succ_of_le Hb2.out, fun l hl => Nat.le_succ_of_le (Hb3.out l hl)⟩
              case measure => simp [intOf]; omega
          · obtain rfl : ls = r ++ [(f, tok)] := by rw [hcon]; simp
            clear hcon
            rw [if_neg (by simp)] at hroll0
            obtain rfl : vn = r.length + 1 := by have := Hnl.out; simpa using this
            have HT := Lib.hid (mvtok_any wm false m Hmw.out)
            rw [show iv (sideOf false) = iv 1 from rfl] at HT
            have hpos : (0 : Int) < ((r.length + 1 : Nat) : Int) := by omega
            go_wp2_with fail
            (with_reducible refine HT.out.mono ?_)
            rintro e wt ⟨rfl, hkt⟩
            have y3t := hkt.cell y3
            have HMt := Lib.hid (HM.out.drawn hkt)
            clear y0 y1 y2 y3 q1 q2 q3 hm0 hm1 hm2 HT
            by_cases ht0 : mvTok false m = 0
            · rw [if_neg (by simp [ht0])] at hroll0
              have gt : (mvTok false m != 0) = false := by simp [ht0]
              have hroll := hroll0
              clear hroll0 ht0
              replace HM := HMt
              have Hf2 := Lib.hid (show (ms.take (k + 1)).foldl (rollT false) initP = ((b0, b1), r ++ [(f, tok)]) by rw [Hf.out, hS, hroll])
              clear hroll hS
              go_wp2_with fail
              go_roundw
              case rel => exact ⟨k + 1, _, _, _, _, _, by omega, by go_num, HM.out, Hf2.out, Nat.le_succ_of_le Hb0.out, Nat.le_succ_of_le Hb1.out, Nat.le_succ_of_le Hb2.out, fun l hl => Nat.le_succ_of_le (Hb3.out l hl)⟩
              case measure => simp [intOf]; omega
            · rw [if_pos ht0] at hroll0
              have gt : (mvTok false m != 0) = true := by simp [ht0]
              have hroll := hroll0
              clear hroll0 ht0
              obtain ⟨g, cl, ts', t', htl, rfl, hlt', hBg, hgw, hgt, htn, hOt, hcell, hfree⟩ := HM.out.pat.last
              simp only [Tv.mk.injEq] at htl
              simp only [true_and] at htl
              obtain ⟨rfl, rfl⟩ := htl
              obtain ⟨sa, sn, sc⟩ := t'
              simp only at hgt htn hOt hcell
              have hsn : sn ≤ k := by rw [htn]; exact Hb3.out (f, tok) (by simp)
              have Hf2 := Lib.hid (show (ms.take (k + 1)).foldl (rollT false) initP = ((b0, b1), r ++ [(f, tok ++ [mvTok false m])]) by rw [Hf.out, hS, hroll]; simp only [addT_concat])
              have hbyt : (sn + 1) * 8 ≤ 140737488355328 := by omega
              have Htn := Lib.hid htn
              clear htn hroll hS
              generalize mvTok false m = tk at *
              go_upto_region 17 with fail
              refine anyS_start (fun w => w.cell? ⟨bp, 3, none⟩ = some (.slice (some ⟨g, 0, none⟩) (r.length + 1) vc) ∧ w.cell? ⟨g, r.length * 2 + 1, none⟩ = some (.slice sa sn sc)) 16 (by kernel_rfl) ?_
              generalize hwd : wt.drew = wd
              have hkd : Kp wt wd := hwd ▸ (⟨rfl, rfl, rfl, Nat.le_refl _, fun _ _ => rfl⟩ : Kp wt wt.drew)
              clear hwd
              have hH := And.intro (hkd.cell y3t) (hkd.cell (hkt.cell hcell))
              have HMd := Lib.hid (HMt.out.drawn hkd)
              have hfd := (Fr.of_kp hkd).free (hkt.cell hcell) ((Fr.of_kp hkt).free hcell hfree (by simp)) (by simp)
              have hOd := (hOt.keep hkt).keep hkd
              clear hcell hfree hOt
              refine anyS_take [0, 2, 3, 4, 6, 7, 11] (by kernel_rfl) hH ?_
              simp only [opsAt, List.getElem?_toArray, List.getElem?_cons_zero, List.getElem?_cons_succ]
              repeat (go_big_quiet_step (fail))
              refine wpQuiet_nil ?_
              refine anyS_load 1 63 (.slice (some ⟨g, 0, none⟩) (r.length + 1) vc) rfl rfl (by kernel_rfl) hH (fun w h => exec_load24 h.1 rfl rfl) ?_
              simp only [Act.put, List.setIfInBounds_toArray, List.set_cons_zero, List.set_cons_succ]
              refine anyS_load 5 67 (.slice (some ⟨g, 0, none⟩) (r.length + 1) vc) rfl rfl (by kernel_rfl) hH (fun w h => exec_load24 h.1 rfl rfl) ?_
              simp only [Act.put, List.setIfInBounds_toArray, List.set_cons_zero, List.set_cons_succ]
              refine anyS_take [8, 9] (by kernel_rfl) hH ?_
              simp only [opsAt, List.getElem?_toArray, List.getElem?_cons_zero, List.getElem?_cons_succ]
              repeat (go_big_quiet_step (fail))
              refine wpQuiet_nil ?_
              refine anyS_load 10 72 (.slice sa sn sc) rfl rfl (by kernel_rfl) hH (fun w h => exec_load22 h.2 rfl rfl) ?_
              simp only [Act.put, List.setIfInBounds_toArray, List.set_cons_zero, List.set_cons_succ]
              have hkn := Kp.new wd (.cells #[iv tk] 3)
              have hBw : B ≤ (wd.alloc (.cells #[iv tk] 3)).heap.size := Nat.le_trans HMd.out.big hkn.size
              refine anyS_one 12 (by kernel_rfl) ?_
              simp only [opsAt, List.getElem?_toArray, List.getElem?_cons_zero, List.getElem?_cons_succ]
              have hHn := And.intro (hkn.cell hH.1) (hkn.cell hH.2)
              have HHn := Lib.hid hHn
              clear hHn
              go_wp2_with fail
              refine ⟨fun _ => HHn.out, ?_⟩
              refine anyS_one 13 (by kernel_rfl) ?_
              simp only [opsAt, List.getElem?_toArray, List.getElem?_cons_zero, List.getElem?_cons_succ]
              have hbs : bp ∉ blkL sa := fun hx => by have := (hOd.lt bp (mem_blkL.1 hx)).1; omega
              go_wp2_with (at_builtin; refine wpList_app rfl (.tmp 72) (.tmp 74) 22 rfl el22 B rfl (hOd.keep hkn) rfl [iv tk] rfl (Cs.new wd [iv tk] 3 (0, 0)) (by simp [Value.oneCell']) (sn + 1) rfl ((tok ++ [tk]).map iv) (by simp) hbyt hBw ?_; intro ao2 cap2 w2 ha)
              have hH2 := And.intro (ha.fr.cell HHn.out.1 hbs) (ha.fr.cell HHn.out.2 hgt)
              have z1 := ha.fr.free HHn.out.2 ((Fr.of_kp hkn).free hH.2 hfd (by simp)) hgt
              have Hm2 := Lib.hid (HMd.out.appt hL hBg hOd hkn ha)
              refine ⟨fun _ => hH2, ?_⟩
              refine anyS_one 14 (by kernel_rfl) ?_
              simp only [opsAt, List.getElem?_toArray, List.getElem?_cons_zero, List.getElem?_cons_succ]
              go_wp2_with fail
              refine ⟨fun _ => hH2, ?_⟩
              refine anyS_one 15 (by kernel_rfl) ?_
              simp only [opsAt, List.getElem?_toArray, List.getElem?_cons_zero, List.getElem?_cons_succ]
              go_wp2_with fail
              refine ⟨fun _ => hH2, ?_⟩
              refine anyS_one 16 (by kernel_rfl) ?_
              simp only [opsAt, List.getElem?_toArray, List.getElem?_cons_zero, List.getElem?_cons_succ]
              obtain ⟨z3, z0⟩ := hH2
              go_wp2_with fail
              refine ⟨fun h => absurd rfl h, ?_⟩
              refine anyS_end (by kernel_rfl) ?_
              clear z3 z0 hH
              go_wp2_with fail
              go_roundw
              case rel => exact ⟨k + 1, _, _, _, _, _, by omega, by go_num, Hm2.out, Hf2.out, Nat.le_succ_of_le Hb0.out, Nat.le_succ_of_le Hb1.out, by have := Hb2.out; simp only [List.length_append, List.length_cons, List.length_nil] at this ⊢; omega, fun l hl => by
                  rcases List.mem_append.1 hl with q | q
                  · exact Nat.le_succ_of_le (Hb3.out l (List.mem_append.2 (.inl q)))
                  · simp at q; subst q; have := Hb3.out (f, tok) (by simp); simp; exact this⟩
              case measure => simp [intOf]; omega
    · obtain rfl : k = n := by omega
      have hfold : rollTL false ms = p := by rw [← hS, List.take_of_length_le (by have := Hml.out; omega)]; rfl
      have Hrl := Lib.hid (show rolledL false ms = keepL false ms p by rw [← rolled_eq, hfold])
      have hl' : Lns wr tl.ao tl.n p.2 := hM.pat.lns (by omega) (fun l hl => by have := hb3 l hl; omega)
      obtain ⟨⟨b0, b1⟩, ls⟩ := p
      obtain ⟨ta, tn, tc⟩ := t0
      obtain ⟨ua, un, uc⟩ := t1
      obtain ⟨va, vn, vc⟩ := tl
      have HU := Lib.hid (refUnroll_false wr ⟨#[]⟩ ta ua va tn tc un uc vn vc b0 b1 ls hM.pat.is0 hM.pat.is1 hl')
      have hms' := Lib.hid (Kp.mvs hM.kp HMs.out)
      obtain ⟨⟨y0, y1, y2, y3⟩, _, _, _⟩ := hM.at4
      unfold tvv at y1 y2 y3
      simp only at y1 y2 y3
      have HM := Lib.hid hM
      have hbr : w.heap.size ≤ br := hL.1
      have hbr2 : br < B := by have := hL.2.1; omega
      clear hM hl' hS hfold hb0 hb1 hb2 hb3 hlt
      go_wp2_with fail
      (with_reducible refine HU.out.mono ?_)
      rintro e w3 ⟨hk3, h⟩
      have HM3 := Lib.hid (HM.out.drawn hk3)
      clear HU y0 y1 y2 y3
      by_cases hc : checkL b0 b1 ls = 0
      · rw [if_pos hc] at h
        obtain ⟨ao, nn, cap, rfl, hMv⟩ := h
        have hMs3 := Kp.mvs hk3 hms'.out
        have hx := hMv.mvs
        have Hx := Lib.hid hx.1
        have Hc := Lib.hid hc
        have hnn := hx.2.1
        unfold maxLen at hnn
        clear hMv hc
        by_cases hne : nn = k
        · subst hne
          have hq := neq42
          go_upto_region 28 with fail
          obtain ⟨⟨y0, y1, y2, y3⟩, _, _, _⟩ := HM3.out.at4
          obtain ⟨x0, x1, x2, x3, ⟨r0, r1, r2, r3⟩, g0, g1, g2, g3⟩ := HM3.out.res
          unfold tvv at y1 y2 y3
          simp only at y1 y2 y3
          go_wp2_with fail
          go_loopw [16] (fun i wr => ∃ j q : Nat, j ≤ nn ∧ i = .int .i64 j ∧ wr = w3.drewN q ∧ (unrollL false b0 b1 ls).take j = ms.take j) (fun i _ => nn - (intOf i).toNat)
          case atStart => exact ⟨0, 0, by omega, rfl, rfl, rfl⟩
          case round =>
            obtain ⟨j, q, hj, rfl, rfl, htk⟩ := hrel
            by_cases hlt : j < nn
            · obtain ⟨b, off, rfl, hc⟩ := hx.at j hlt
              obtain ⟨b', off', rfl, hc'⟩ := hMs3.at j hlt
              obtain ⟨c1, c2, c3⟩ := hc j hlt
              obtain ⟨d1, d2, d3⟩ := hc' j hlt
              have lx : j < (unrollL false b0 b1 ls).length := by rw [Hx.out]; exact hlt
              have ly : j < ms.length := by rw [Hml.out]; exact hlt
              have hcut := lists_cut (unrollL false b0 b1 ls) ms (by rw [Hx.out, Hml.out]) j lx htk
              clear hc hc' htk
              generalize (unrollL false b0 b1 ls)[j]'lx = x at c1 c2 c3 hcut
              generalize ms[j]'ly = y at d1 d2 d3 hcut
              have he := mv_eq x y
              by_cases hxy : x = y
              · have Hcu := Lib.hid (hcut.1 hxy)
                have he : (x.op == y.op && (x.key == y.key && x.wth == y.wth)) = true := by rw [he]; simp [hxy]
                obtain ⟨x1', x2', x3'⟩ := x
                obtain ⟨y1', y2', y3'⟩ := y
                simp only at c1 c2 c3 d1 d2 d3 he
                have hq2 : ∀ w, (binOp .neq 42 (.agg #[.int .i64 x1', .int .i64 x2', .int .i64 x3']) (.agg #[.int .i64 y1', .int .i64 y2', .int .i64 y3'])).run Tryd.prog w = .ok (.bool false) w := fun w => by rw [neq42, he]; rfl
                clear hcut hxy hq he
                go_wp2_with fail
                go_quiet (fail)
                go_wp2_with fail
                go_roundw
                case rel => exact ⟨j + 1, _, by omega, by go_num, by first | rfl | exact World.drewN_drewN _ _ _, Hcu.out⟩
                case measure => simp [intOf]; omega
              · have Hno := Lib.hid (show rolledL false ms = none by rw [Hrl.out]; unfold keepL; exact if_neg (fun h => hcut.2 hxy h.2))
                have he : (x.op == y.op && (x.key == y.key && x.wth == y.wth)) = false := by rw [he]; simpa using hxy
                obtain ⟨x1', x2', x3'⟩ := x
                obtain ⟨y1', y2', y3'⟩ := y
                simp only at c1 c2 c3 d1 d2 d3 he
                have hq2 : ∀ w, (binOp .neq 42 (.agg #[.int .i64 x1', .int .i64 x2', .int .i64 x3']) (.agg #[.int .i64 y1', .int .i64 y2', .int .i64 y3'])).run Tryd.prog w = .ok (.bool true) w := fun w => by rw [neq42, he]; rfl
                clear hcut hxy hq he
                go_wp2_with fail
                go_quiet (fail)
                go_wp2_with fail
                obtain ⟨wf, hwf, hset, k0, k1, k2, k3⟩ := (HM3.out.drawn (Kp.of_drewN w3 (q + nq))).res.set4 (.string ⟨#[]⟩) (.slice none 0 0) (.slice none 0 0) (.slice none 0 0)
                rw [← hwf]
                refine bodyPost_ret (v := .tuple #[.agg #[.string ⟨#[]⟩, .slice none 0 0, .slice none 0 0, .slice none 0 0], iv 9]) (by simp [results, Tryd.results20, go_sem, k0, k1, k2, k3]) rfl ?_
                exact ⟨((Fr.of_kp (HM3.out.drawn (Kp.of_drewN w3 (q + nq))).kp).step hset (fun j hj => .inr (by simp at hj; omega))).kp, by rw [Hno.out]⟩
            · have Hyes := Lib.hid (show rolledL false ms = some ((b0, b1), ls) by
                rw [List.take_of_length_le (by rw [Hx.out]; omega), List.take_of_length_le (by rw [Hml.out]; omega)] at htk
                rw [Hrl.out]; unfold keepL; exact if_pos ⟨Hc.out, htk⟩)
              clear htk hq
              go_wp2_with fail
              obtain ⟨wf, hwf, hset, k0, k1, k2, k3⟩ := (HM3.out.drawn (Kp.of_drewN w3 q)).res.set4 (.string ⟨#[]⟩) (.slice ta tn tc) (.slice ua un uc) (.slice va vn vc)
              rw [← hwf]
              refine bodyPost_ret (v := .tuple #[.agg #[.string ⟨#[]⟩, .slice ta tn tc, .slice ua un uc, .slice va vn vc], iv 0]) (by simp [results, Tryd.results20, go_sem, k0, k1, k2, k3]) rfl ?_
              refine ⟨((Fr.of_kp (HM3.out.drawn (Kp.of_drewN w3 q)).kp).step hset (fun j hj => .inr (by simp at hj; omega))).kp, ?_⟩
              rw [Hyes.out]
              exact ⟨⟨ta, tn, tc⟩, ⟨ua, un, uc⟩, ⟨va, vn, vc⟩, ts, rfl, ((HM3.out.drawn (Kp.of_drewN w3 q)).pat.fr hset (by simp; omega)).base (by have := hL.2.1; have := hL.2.2; omega)⟩
        · have Hno := Lib.hid (show rolledL false ms = none by rw [Hrl.out]; unfold keepL; exact if_neg (fun h => hne (by rw [← Hx.out, h.2, Hml.out])))
          have hb : ((nn : Int) != (k : Int)) = true := by simp; omega
          obtain ⟨x0, x1, x2, x3, ⟨r0, r1, r2, r3⟩, g0, g1, g2, g3⟩ := HM3.out.res
          go_wp2_with fail
          have HX := Lib.hid (HM3.out.res.set4 (.string ⟨#[]⟩) (.slice none 0 0) (.slice none 0 0) (.slice none 0 0))
          have HKX := Lib.hid HM3.out.kp
          obtain ⟨wf, hwf, hset, k0, k1, k2, k3⟩ := HX.out
          rw [← hwf]
          refine bodyPost_ret (v := .tuple #[.agg #[.string ⟨#[]⟩, .slice none 0 0, .slice none 0 0, .slice none 0 0], iv 9]) (by simp [results, Tryd.results20, go_sem, k0, k1, k2, k3]) rfl ?_
          exact ⟨((Fr.of_kp HKX.out).step hset (fun j hj => .inr (by simp at hj; omega))).kp, by rw [Hno.out]⟩
      · rw [if_neg hc] at h
        have Hno := Lib.hid (show rolledL false ms = none by rw [Hrl.out]; unfold keepL; exact if_neg (fun h => hc h.1))
        have hcz : (((checkL b0 b1 ls : Nat) : Int) != 0) = true := by simp; omega
        subst h
        generalize checkL b0 b1 ls = cc at *
        obtain ⟨x0, x1, x2, x3, ⟨r0, r1, r2, r3⟩, g0, g1, g2, g3⟩ := HM3.out.res
        clear hc
        go_wp2_with fail
        have HX := Lib.hid (HM3.out.res.set4 (.string ⟨#[]⟩) (.slice none 0 0) (.slice none 0 0) (.slice none 0 0))
        have HKX := Lib.hid HM3.out.kp
        obtain ⟨wf, hwf, hset, k0, k1, k2, k3⟩ := HX.out
        rw [← hwf]
        refine bodyPost_ret (v := .tuple #[.agg #[.string ⟨#[]⟩, .slice none 0 0, .slice none 0 0, .slice none 0 0], iv 9]) (by simp [results, Tryd.results20, go_sem, k0, k1, k2, k3]) rfl ?_
        exact ⟨((Fr.of_kp HKX.out).step hset (fun j hj => .inr (by simp at hj; omega))).kp, by rw [Hno.out]⟩
end Go.Proofs.YtpemfmjplejdiaaDoor
