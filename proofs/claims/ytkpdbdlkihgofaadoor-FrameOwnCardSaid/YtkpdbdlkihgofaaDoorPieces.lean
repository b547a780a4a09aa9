/- FramePieces, walked. Conditions: the lists are such (Lss, Zs); ErrLong is laid (HasErr). -/
import Derived.Test.YtkpdbdlkihgofaaDoorLine
namespace Go.Proofs.YtkpdbdlkihgofaaDoor
open Go.RowKit

/-- A Reader made behind w0. -/
def RdrP (w0 : World) (r : Nat) (held : List UInt8) (T : Nat) (w : World) : Prop := ∃ ao, Rdr w 0 r ao held T ∧ Kp w0 w ∧ ∀ k ∈ r :: blkL ao, w0.heap.size ≤ k

theorem RdrP.keeps {w0 w : World} {r T : Nat} {held : List UInt8} (h : RdrP w0 r held T w) : Kp w0 w := h.choose_spec.2.1
theorem RdrP.kp {w0 w w' : World} {r T : Nat} {held : List UInt8} (h : RdrP w0 r held T w) (k : Kp w w') : RdrP w0 r held T w' := by
  obtain ⟨ao, h1, h2, h3⟩ := h
  exact ⟨ao, h1.keep (Fr.of_kp k) (by simp), Kp.trans h2 k, h3⟩
theorem RdrP.new {w0 : World} {b : Nat} (hb : b = w0.heap.size) (e1 : TypeId) : RdrP w0 b [] 0 (w0.alloc (.cells #[.slice none 0 0, .int .i64 0] e1)) :=
  ⟨none, Rdr.new w0 0 b e1 hb, Kp.new _ _, fun k hk => by simp [blkL, blk] at hk; omega⟩
theorem RdrP.feed {w0 w : World} {r T : Nat} {held : List UInt8} (h : RdrP w0 r held T w) {bo : Option Addr} {m c : Nat} {ys : List UInt8} (hy : Bs w bo m ys) (hd : ∀ k ∈ blkL bo, k < w0.heap.size) (hT : T + ys.length ≤ 1000000000) :
    Calls Tryd.prog 19 #[.pointer (some ⟨r, 0, none⟩), .slice bo m c] w fun e w' => e = .returned (.tuple #[]) ∧ RdrP w0 r (held ++ ys) (T + ys.length) w' := by
  obtain ⟨ao, h1, h2, h3⟩ := h
  refine (h1.feed (Nat.zero_le _) hy (fun k hk hk2 => by have := hd k hk; have := h3 k hk2; omega) hT).mono ?_
  rintro e w' ⟨rfl, ao', g1, g2, g3⟩
  have hr := h3 r (by simp)
  refine ⟨rfl, ao', g1, ((Fr.of_kp h2).step g2 (fun j hj => .inr (h3 j hj))).kp, fun k hk => ?_⟩
  rcases List.mem_cons.1 hk with rfl | hk
  · exact hr
  · rcases g3 k hk with h4 | h4
    · exact h3 k (by simp [h4])
    · exact Nat.le_trans h2.size h4
theorem RdrP.held {w0 w : World} {r T : Nat} {held : List UInt8} (h : RdrP w0 r held T w) (hT : T ≤ 1000000000) :
    Calls Tryd.prog 21 #[.pointer (some ⟨r, 0, none⟩)] w fun e w' => e = .returned (.int .i64 (held.length : Int)) ∧ RdrP w0 r held T w' := by
  have hh := h
  obtain ⟨ao, h1, h2, h3⟩ := h
  exact (h1.held hT).mono (by rintro e w' ⟨rfl, k, rfl⟩; exact ⟨rfl, hh.kp (Kp.of_drewN _ _)⟩)
theorem RdrP.next_no {w0 w : World} {r T : Nat} {held : List UInt8} (h : RdrP w0 r held T w) (hT : T ≤ 1000000000) (hn : nextL held = none) :
    Calls Tryd.prog 20 #[.pointer (some ⟨r, 0, none⟩)] w fun e w' => e = .returned (.tuple #[.slice none 0 0, .bool false]) ∧ RdrP w0 r held T w' := by
  obtain ⟨ao, h1, h2, h3⟩ := h
  refine (h1.next_no hT hn).mono ?_
  rintro e w' ⟨rfl, g1, g2⟩
  exact ⟨rfl, ao, g1, Kp.trans h2 g2.kp, h3⟩
theorem RdrP.next_yes {w0 w : World} {r T : Nat} {held : List UInt8} (h : RdrP w0 r held T w) (hT : T ≤ 1000000000) {m rest : List UInt8} (hn : nextL held = some (m, rest)) :
    Calls Tryd.prog 20 #[.pointer (some ⟨r, 0, none⟩)] w fun e w' => ∃ bo cap, e = .returned (.tuple #[.slice bo m.length cap, .bool true]) ∧ Own w' w.heap.size 5 1 bo m.length cap (m.map by8) ∧ RdrP w0 r rest T w' := by
  obtain ⟨ao, h1, h2, h3⟩ := h
  refine (h1.next_yes hT hn).mono ?_
  rintro e w' ⟨bo, cap, rfl, g0, g1, g2⟩
  exact ⟨bo, cap, rfl, g0, ao, g1, ((Fr.of_kp h2).step g2 (fun j hj => .inr (h3 j (by simp only [List.mem_singleton] at hj; simp [hj])))).kp, h3⟩

theorem blkL_add (ao : Option Addr) (p : Nat) : blkL (ao.map (·.add p)) = blkL ao := by
  cases ao with
  | none => rfl
  | some x => simp only [blkL, blk, Option.map_some, Addr.add]; split <;> rfl

/-- Where each message ends. -/
def endsV (ms : List (List UInt8)) (k : Nat) : List Value := (List.range k).map fun j => .int .i64 (offK ms (j + 1) : Nat)
theorem endsV_length (ms : List (List UInt8)) (k : Nat) : (endsV ms k).length = k := by simp [endsV]
theorem endsV_succ (ms : List (List UInt8)) (k : Nat) : endsV ms (k + 1) = endsV ms k ++ [.int .i64 (offK ms (k + 1) : Nat)] := by
  simp [endsV, List.range_succ]

theorem endsV_get (ms : List (List UInt8)) (k t : Nat) (h : t < k) : (endsV ms k)[t]? = some (.int .i64 (offK ms (t + 1) : Nat)) := by
  simp [endsV, h]
theorem Own.at0 {w : World} {base : Nat} {e : TypeId} {size : Nat} {ao : Option Addr} {n cap : Nat} {xs : List Value} (h : Own w base e size ao n cap xs) (hn : 0 < n) : ∃ g, ao = some ⟨g, 0, none⟩ := by
  obtain ⟨_, ⟨h0, _⟩ | ⟨g, cap', cur, hv, _⟩⟩ := h
  · simp only [Value.slice.injEq] at h0
    omega
  · simp only [Value.slice.injEq] at hv
    exact ⟨g, hv.1⟩

set_option maxRecDepth 100000 in
set_option maxHeartbeats 8000000 in
theorem framePieces_walk (w : World) (a : Addr) (hH : HasErr w a) (lo zo : Option Addr) (n c zn zc : Nat) (ms : List (List UInt8)) (zs : List Int) (hs : Lss w lo n ms) (hz : Zs w zo zn zs) :
    Calls Tryd.prog 7 #[.slice lo n c, .slice zo zn zc] w fun e w' => e = .returned (.bool true) ∧ Kp w w' := by
  have hn := hs.2.1
  have hzn := hz.2.1
  unfold maxLen at hn hzn
  go_enter Tryd.func7, Tryd.ntmps7
  go_wp2_with fail
  (with_reducible refine (long_any w lo n c ms hs).mono ?_)
  rintro e w1 ⟨b, rfl, hk1, hb⟩
  cases b with
  | true =>
    go_wp2_with fail
    go_ret
    exact ⟨rfl, hk1⟩
  | false =>
    obtain ⟨h400, htot⟩ := hb rfl
    have hs1 := Kp.lss hk1 hs
    have hz1 := Kp.zs hk1 hz
    have hH1 := Kp.err hk1 hH
    have hl := Lib.hid hs.1
    clear hs hb hz
    go_wp2_with fail
    go_loopw [5, 6, 7] (fun l en i wr => ∃ (k L lc ec : Nat) (l0 eo : Option Addr), k ≤ n ∧ i = .int .i64 k ∧ l = .slice l0 L lc ∧ en = .slice eo k ec ∧ Bs wr l0 L (lineK ms k) ∧ (∀ j ∈ blkL l0, j < wr.heap.size) ∧ L ≤ lc ∧ Own wr w1.heap.size 3 1 eo k ec (endsV ms k) ∧ Kp w1 wr ∧ (∀ j (h : j < ms.length), j < k → ms[j].length ≤ 65535)) (fun _ _ i _ => n - (intOf i).toNat)
    case atStart => exact ⟨0, 0, 0, 0, none, none, by omega, rfl, rfl, rfl, Bs.zero _ _, by simp [blkL, blk], by omega, Own.nil _ _ _ _, Kp.refl _, by simp⟩
    case round =>
      obtain ⟨k, L, lc, ec, l0, eo, hk, rfl, rfl, rfl, hB, hlb, hlc, hE, hkk, hms⟩ := hrel
      by_cases hlt : k < n
      · have hkl : k < ms.length := by rw [hl.out]; exact hlt
        obtain ⟨b, off, xo, xn, xc, rfl, hc1, hX, hxn⟩ := hs1.2.2 k hkl
        have hc1 := Kp.cell hkk hc1
        by_cases hx : xn ≤ 65535
        · have hL : L ≤ 1000000 := by
            have h1 := hB.1
            have h2 := offK_tot ms k (by omega)
            have h3 := totL_mono ms (ms.length - k) (k := k) (by omega)
            rw [Nat.add_sub_cancel' (by omega)] at h3
            unfold offK at h2
            omega
          go_wp2_with fail
          (with_reducible refine (put_any wr l0 xo L xn lc xc (lineK ms k) ms[k] hB (Kp.bs hkk hX) (by omega) hx).mono ?_)
          rintro e w2 ⟨g, rfl, hO2, hk2⟩
          have hc2 := Kp.cell hk2 hc1
          have hE2 := hE.keep hk2
          have hoff : offK ms (k + 1) = L + 2 + xn := by
            have h1 := offK_succ ms k hkl
            have h2 : offK ms k = L := hB.1
            rw [hX.1] at h1
            omega
          have hzs : endsV ms (k + 1) = endsV ms k ++ [.int .i64 ((L : Int) + 2 + (xn : Int))] := by
            rw [endsV_succ, hoff]; rfl
          have hz1 := hkk.size
          have hz2 := hk2.size
          have Hoff := Lib.hid hoff; clear hoff
          go_wp2_with (at_builtin; refine wpList_app rfl (.tmp 58) (.tmp 61) 54 rfl el54 w1.heap.size rfl (hE2.keep (Kp.new _ _)) rfl [.int .i64 ((L : Int) + 2 + (xn : Int))] rfl (Cs.new w2 [.int .i64 ((L : Int) + 2 + (xn : Int))] 3 (0, 0)) (by simp [Value.oneCell']) (k + 1) rfl (endsV ms (k + 1)) hzs (by omega) (by simp; omega) ?_; intro eo2 ec2 w3 ha3)
          have hF3 : Fr (blkL eo) w2 w3 := (Fr.new _ _ _).trans ha3.fr
          have hge : ∀ j ∈ blkL eo, w1.heap.size ≤ j ∧ j < wr.heap.size := fun j hj => hE.lt j (mem_blkL.1 hj)
          have hg := (hO2.lt g rfl)
          have hz3 := hF3.size
          go_roundw
          case rel =>
            refine ⟨k + 1, L + 2 + xn, L + 2 + xn, ec2, _, eo2, by omega, by go_num, rfl, rfl, ?_, ?_, Nat.le_refl _, ha3.own, ((Fr.of_kp (Kp.trans hkk hk2)).step hF3 (fun j hj => .inr (hge j hj).1)).kp, ?_⟩
            · rw [lineK_succ ms k hkl]
              exact hF3.bs hO2.bs (fun j hj hj2 => by rw [mem_blkL_some] at hj; have := (hge j hj2).2; omega)
            · intro j hj
              rw [mem_blkL_some] at hj
              omega
            · intro j hj hj2
              rcases Nat.lt_or_ge j k with h1 | h1
              · exact hms j hj h1
              · obtain rfl : j = k := by omega
                rw [hX.1]; exact hx
          case measure => simp [intOf]; omega
        · go_wp2_with fail
          go_ret
          exact ⟨rfl, Kp.trans hk1 hkk⟩
      · obtain rfl : k = ms.length := by rw [hl.out]; omega
        have hnl : n = ms.length := hl.out.symm
        subst hnl
        obtain ⟨wE, rfl⟩ : ∃ x, x = wr := ⟨_, rfl⟩
        have hms : ∀ j (h : j < ms.length), ms[j].length ≤ 65535 := fun j h => hms j h h
        have hLo : offK ms ms.length = L := hB.1
        have hL : L ≤ 1000000 := by
          have h2 := offK_tot ms ms.length (Nat.le_refl _)
          omega
        have hs2 := Kp.lss hkk hs1
        have hz2 := Kp.zs hkk hz1
        have hH2 := Kp.err hkk hH1
        have hk2 := Kp.trans hk1 hkk
        clear hs1 hz1 hH1 hkk hk1 hH
        have Hms := Lib.hid hms; clear hms
        have HLo := Lib.hid hLo; clear hLo
        go_wp2_with fail
        have hP0 := RdrP.new (w0 := wE) rfl 39
        generalize wE.alloc (.cells #[.slice none 0 0, .int .i64 0] 39) = wq at hP0 ⊢
        go_loopw [11, 12, 13, 14] (fun at_ told gone i wv => ∃ p t j : Nat, at_ = .int .i64 p ∧ told = .int .i64 t ∧ gone = .int .i64 (offK ms t : Nat) ∧ i = .int .i64 j ∧ p ≤ L ∧ t ≤ ms.length ∧ offK ms t ≤ p ∧ (t = ms.length ∨ p < offK ms (t + 1)) ∧ j ≤ 401 ∧ ((j ≤ zn ∧ j ≤ 400) ∨ p = L) ∧ RdrP wE wE.heap.size (heldAt ms t p) p wv) (fun _ _ _ i _ => 402 - (intOf i).toNat)
        case atStart =>
          refine ⟨0, 0, 0, rfl, rfl, by rw [offK_zero]; rfl, rfl, by omega, by omega, by rw [offK_zero]; omega, ?_, by omega, .inl ⟨by omega, by omega⟩, hP0⟩
          rcases Nat.eq_zero_or_pos ms.length with h0 | h0
          · exact .inl h0.symm
          · have := offK_succ ms 0 (h0)
            exact .inr (by omega)
        case round =>
          obtain ⟨p, t, j, rfl, rfl, rfl, rfl, hp, ht, htp, hpend, hj, hor, hPr⟩ := hrel
          clear hP0
          by_cases hi : j ≤ zn ∧ j ≤ 400
          · obtain ⟨hi1, hi2⟩ := hi
            go_upto_region 23 with fail
            go_cut [101] (fun v wc => v = .bool (decide (j < zn ∧ j < 400 ∧ 0 ≤ zs.getD j 0 ∧ zs.getD j 0 < (L : Int) - p)) ∧ wr = wc)
            case first =>
              by_cases c1 : j < zn
              · have hjz : j < zs.length := by rw [hz2.1]; exact c1
                obtain ⟨zb, zoff, rfl, hcz⟩ := hz2.2.2 j hjz
                have hcz := Kp.cell hPr.keeps hcz
                obtain ⟨z, hzz⟩ : ∃ z, z = zs[j] := ⟨_, rfl⟩
                rw [← hzz] at hcz
                have hg := Lib.hid (show zs.getD j 0 = z by simp [List.getD, hjz, hzz])
                clear hzz
                by_cases c2 : j < 400
                · by_cases c3 : 0 ≤ z
                  · by_cases c4 : z < (L : Int) - p
                    · go_wp2_with fail
                      go_meet
                      case rel => exact ⟨by rw [hg.out]; simp; omega, rfl⟩
                    · go_wp2_with fail
                      go_meet
                      case rel => exact ⟨by rw [hg.out]; simp; omega, rfl⟩
                  · go_wp2_with fail
                    go_meet
                    case rel => exact ⟨by rw [hg.out]; simp; omega, rfl⟩
                · go_wp2_with fail
                  go_meet
                  case rel => exact ⟨by rw [hg.out]; simp; omega, rfl⟩
              · go_wp2_with fail
                go_meet
                case rel => exact ⟨by simp; omega, rfl⟩
            case rest =>
              obtain ⟨rfl, rfl⟩ := hcut
              go_upto_if 101 with fail
              go_cut [15] (fun v wc => ∃ d : Nat, v = .int .i64 d ∧ p + d ≤ L ∧ ((j < zn ∧ j < 400) ∨ p + d = L) ∧ wr = wc)
              case first =>
                by_cases hc : j < zn ∧ j < 400 ∧ 0 ≤ zs.getD j 0 ∧ zs.getD j 0 < (L : Int) - p
                · have hd : decide (j < zn ∧ j < 400 ∧ 0 ≤ zs.getD j 0 ∧ zs.getD j 0 < (L : Int) - p) = true := decide_eq_true hc
                  obtain ⟨c1, c2, c3, c4⟩ := hc
                  have hjz : j < zs.length := by rw [hz2.1]; exact c1
                  obtain ⟨zb, zoff, rfl, hcz⟩ := hz2.2.2 j hjz
                  have hcz := Kp.cell hPr.keeps hcz
                  have hg : zs.getD j 0 = zs[j] := by simp [List.getD, hjz]
                  rw [hg] at c3 c4
                  go_wp2_with fail
                  go_meet
                  case rel => exact ⟨zs[j].toNat, by rw [Int.toNat_of_nonneg c3], by omega, .inl ⟨c1, c2⟩, rfl⟩
                · have hd : decide (j < zn ∧ j < 400 ∧ 0 ≤ zs.getD j 0 ∧ zs.getD j 0 < (L : Int) - p) = false := decide_eq_false hc
                  go_wp2_with fail
                  go_meet
                  case rel => exact ⟨L - p, by congr 1; omega, by omega, .inr (by omega), rfl⟩
              case rest =>
                obtain ⟨d, rfl, hpd, hor2, rfl⟩ := hcut
                go_upto_region 25 with fail
                have hcl := (Kp.bs hPr.keeps hB).cut p d hpd (lc = p) (fun h => by omega)
                have Hc1 := Lib.hid hcl.1
                have hbl : ∀ k ∈ blkL (if lc = p then l0 else l0.map (·.add p)), k < wE.heap.size := by
                  intro k hk
                  refine hlb k ?_
                  split at hk
                  · exact hk
                  · rw [blkL_add] at hk; exact hk
                go_cut [113] (fun v wc => RdrP wE wE.heap.size (heldAt ms t (p + d)) (p + d) wc)
                case first =>
                  by_cases hlp : lc = p
                  · subst hlp
                    rw [if_pos rfl] at hcl hbl
                    go_wp2_with fail
                    (with_reducible refine (hPr.feed hcl hbl (by rw [Hc1.out]; omega)).mono ?_)
                    rintro e wx ⟨rfl, hPx⟩
                    rw [Hc1.out, heldAt_feed ms t _ d htp] at hPx
                    go_wp2_with fail
                    go_meet
                    case rel => exact hPx
                  · rw [if_neg hlp] at hcl hbl
                    go_wp2_with fail
                    (with_reducible refine (hPr.feed hcl hbl (by rw [Hc1.out]; omega)).mono ?_)
                    rintro e wx ⟨rfl, hPx⟩
                    rw [Hc1.out, heldAt_feed ms t _ d htp] at hPx
                    go_wp2_with fail
                    go_meet
                    case rel => exact hPx
                case rest =>
                  clear hcl hbl hPr
                  have hPr := hcut
                  clear hcut
                  go_upto_region 27 with fail
                  have hq : offK ms t ≤ p + d := by omega
                  clear htp hpend hor hp
                  rw [← Int.natCast_add]
                  generalize p + d = q at hPr hpd hor2 hq ⊢
                  go_loopw [12, 13] (fun told gone wv => ∃ t : Nat, told = .int .i64 t ∧ gone = .int .i64 (offK ms t : Nat) ∧ t ≤ ms.length ∧ offK ms t ≤ q ∧ RdrP wE wE.heap.size (heldAt ms t q) q wv) (fun told _ _ => ms.length - (intOf told).toNat)
                  case atStart => exact ⟨t, rfl, rfl, ht, hq, hPr⟩
                  case round =>
                    clear hPr hq ht
                    obtain ⟨t, rfl, rfl, ht, hq, hPr⟩ := hrel
                    by_cases hc : t < ms.length ∧ offK ms (t + 1) ≤ q
                    · obtain ⟨c1, c2⟩ := hc
                      have hg : ms.getD t [] = ms[t] := by simp [List.getD, c1]
                      have hnx := next_some ms t q c1 (by rw [hg]; exact Hms.out t c1) c2
                      rw [hg] at hnx
                      obtain ⟨eg, rfl⟩ := hE.at0 (by omega)
                      obtain ⟨mb, moff, xo, xn, xc, rfl, hmc, hmX, hmn⟩ := hs2.2.2 t c1
                      have hec := hE.cell t (by omega)
                      rw [endsV_get ms ms.length t c1] at hec
                      clear hg
                      have Hnx := Lib.hid hnx; clear hnx
                      go_wp2_with fail
                      (with_reducible refine (hPr.next_yes (by omega) Hnx.out).mono ?_)
                      rintro e wx ⟨bo, cap, rfl, hO, hPx⟩
                      have hmc := Kp.cell hPx.keeps hmc
                      have hec := Kp.cell hPx.keeps hec
                      have hmX := Kp.bs hPx.keeps hmX
                      go_wp2_with fail
                      (with_reducible refine (same_kp wx bo xo _ xn cap xc _ hO.bs hmX).mono ?_)
                      rintro e wy ⟨rfl, hky⟩
                      have hec := Kp.cell hky hec
                      go_wp2_with fail
                      go_roundw
                      case rel => exact ⟨t + 1, by go_num, rfl, by omega, c2, hPx.kp hky⟩
                      case measure => simp [intOf]; omega
                    · have hnx : nextL (heldAt ms t q) = none := by
                        by_cases c1 : t < ms.length
                        · have hg : ms.getD t [] = ms[t] := by simp [List.getD, c1]
                          exact next_none ms t q c1 (by rw [hg]; exact Hms.out t c1) (by omega)
                        · obtain rfl : t = ms.length := by omega
                          exact next_end ms q
                      have Hnx := Lib.hid hnx; clear hnx
                      have hlen : ((heldAt ms t q).length : Int) = (q : Int) - (offK ms t : Nat) := by
                        rw [heldAt_length ms t q (by rw [HLo.out]; omega)]; omega
                      have Hlen := Lib.hid hlen; clear hlen
                      go_wp2_with fail
                      (with_reducible refine (hPr.next_no (by omega) Hnx.out).mono ?_)
                      rintro e wx ⟨rfl, hPx⟩
                      have hhd := hPx.held (by omega)
                      rw [Hlen.out] at hhd
                      by_cases c1 : t < ms.length
                      · obtain ⟨eg, rfl⟩ := hE.at0 (by omega)
                        have hec := hE.cell t (by omega)
                        rw [endsV_get ms ms.length t c1] at hec
                        have hec := Kp.cell hPx.keeps hec
                        have c2 : q < offK ms (t + 1) := by omega
                        go_wp2_with fail
                        (with_reducible refine hhd.mono ?_)
                        rintro e wy ⟨rfl, hPy⟩
                        go_wp2_with fail
                        go_roundw
                        case rel => exact ⟨q, t, j + 1, rfl, rfl, rfl, by go_num, hpd, ht, hq, .inr c2, by omega, by omega, hPy⟩
                        case measure => simp [intOf]; omega
                      · go_wp2_with fail
                        (with_reducible refine hhd.mono ?_)
                        rintro e wy ⟨rfl, hPy⟩
                        go_wp2_with fail
                        go_roundw
                        case rel => exact ⟨q, t, j + 1, rfl, rfl, rfl, by go_num, hpd, ht, hq, .inl (by omega), by omega, by omega, hPy⟩
                        case measure => simp [intOf]; omega
          · obtain rfl : p = L := by omega
            obtain rfl : t = ms.length := by
              rcases hpend with h1 | h1
              · exact h1
              · by_cases h2 : t < ms.length
                · have := offK_mono ms (show t + 1 ≤ ms.length by omega) (Nat.le_refl _)
                  have := HLo.out
                  omega
                · omega
            have hle := heldAt_length ms ms.length p (by rw [HLo.out]; exact Nat.le_refl _)
            rw [HLo.out, Nat.sub_self] at hle
            have hhd := hPr.held (by omega)
            rw [hle] at hhd
            clear hpend htp hle
            go_wp2_with fail
            all_goals (with_reducible refine hhd.mono ?_)
            all_goals rintro e wx ⟨rfl, hPx⟩
            all_goals have hkx := hPx.keeps
            all_goals go_wp2_with fail
            all_goals (with_reducible refine (known_yes wx a (Kp.err hkx hH2)).mono ?_)
            all_goals rintro e wy ⟨rfl, hky⟩
            all_goals go_wp2_with fail
            all_goals go_ret
            all_goals exact ⟨rfl, Kp.trans hk2 (Kp.trans hkx hky)⟩
end Go.Proofs.YtkpdbdlkihgofaaDoor
