/- Whether a twin is as it was made. Conditions: the pattern and the twin lie there. -/
import Derived.Test.YtjbjgpcldcpjmaaDoorTwinB
import Derived.Test.YtjbjgpcldcpjmaaDoorTwinS
namespace Go.Proofs.YtjbjgpcldcpjmaaDoor
open Go.RowKit

section
variable {w w' : World} {B : Nat} {r0 r1 tl tt : Tv} {ts : List Tv} {b0 b1 : List Int} {ls : List Ln}
theorem TwO.nk (h : TwO w B r0 r1 tl tt ts b0 b1 ls (lnc ls (ts.map cutT) ++ marks2) (ts.map tvv)) : tt.n = ls.length ∧ tl.n = ls.length + 2 := by
  have h1 := h.ok.1
  have h2 := h.ol.1
  rw [List.length_map, h.len] at h1
  rw [List.length_append, lnc_length (by rw [List.length_map]; exact h.len)] at h2
  simp [marks2] at h2
  omega
/-- What lies there of one message. -/
theorem TwO.at (h : TwO w B r0 r1 tl tt ts b0 b1 ls (lnc ls (ts.map cutT) ++ marks2) (ts.map tvv)) (i : Nat) (hi : i < ls.length) :
    ∃ gt gl ta tc, ts[i]? = some ⟨ta, ls[i].2.length + 9, tc⟩ ∧ tt.ao = some ⟨gt, 0, none⟩ ∧ tl.ao = some ⟨gl, 0, none⟩ ∧ w.cell? ⟨gt, i, none⟩ = some (.slice ta (ls[i].2.length + 9) tc) ∧ w.cell? ⟨gl, i * 2, none⟩ = some (iv ls[i].1) ∧ w.cell? ⟨gl, i * 2 + 1, none⟩ = some (.slice ta ls[i].2.length tc) ∧
      Is w ta (ls[i].2.length + 9) (roomL ls[i].2) ∧ ls[i].2.length + 9 ≤ tc := by
  obtain ⟨hk, hl⟩ := h.nk
  have hj' : i < ts.length := by rw [h.len]; exact hi
  have hlen : (ts.map cutT).length = ls.length := by rw [List.length_map]; exact h.len
  have hll := lnc_length hlen
  obtain ⟨ra, rn, rc, rt⟩ : ∃ ra rn rc, ts[i] = ⟨ra, rn, rc⟩ := ⟨_, _, _, rfl⟩
  have hr := List.getElem?_eq_getElem hj'
  rw [rt] at hr
  have ho := h.ot i _ _ hr (List.getElem?_eq_getElem hi)
  obtain ⟨_, hn, hx⟩ := own_is ho
  simp only at hn hx
  subst hn
  obtain ⟨gt, _, e1, _, _, _⟩ := h.ok.block (by omega)
  obtain ⟨gl, _, e2, _, _, _⟩ := h.ol.block (by omega)
  obtain ⟨g0, g1⟩ := lnc_get hlen i hi
  have o1 := h.ok
  have o2 := h.ol
  rw [e1] at o1
  rw [e2] at o2
  refine ⟨gt, gl, ra, rc, hr, e1, e2, ?_, ?_, ?_, hx, ho.cap⟩
  · rw [o1.cell i (by omega), List.getElem?_map, hr]; rfl
  · rw [o2.cell (i * 2) (by omega), List.getElem?_append_left (by omega), g0]
  · rw [o2.cell (i * 2 + 1) (by omega), List.getElem?_append_left (by omega), g1, List.getElem_map, rt]
    simp [cutT, tvv]
/-- What lies behind them. -/
theorem TwO.behind (h : TwO w B r0 r1 tl tt ts b0 b1 ls (lnc ls (ts.map cutT) ++ marks2) (ts.map tvv)) :
    ∃ gl, tl.ao = some ⟨gl, 0, none⟩ ∧ w.cell? ⟨gl, ls.length * 2, none⟩ = some (iv 71) ∧ w.cell? ⟨gl, ls.length * 2 + 1, none⟩ = some (.slice none 0 0) ∧ w.cell? ⟨gl, (ls.length + 1) * 2, none⟩ = some (iv 72) := by
  obtain ⟨hk, hl⟩ := h.nk
  have hlen : (ts.map cutT).length = ls.length := by rw [List.length_map]; exact h.len
  have hll := lnc_length hlen
  obtain ⟨gl, _, e2, _, _, _⟩ := h.ol.block (by omega)
  have o2 := h.ol
  rw [e2] at o2
  refine ⟨gl, e2, ?_, ?_, ?_⟩
  · rw [o2.cell _ (by omega), List.getElem?_append_right (by omega), hll, Nat.sub_self]; rfl
  · rw [o2.cell _ (by omega), List.getElem?_append_right (by omega), hll, Nat.add_sub_cancel_left]; rfl
  · rw [o2.cell _ (by omega), List.getElem?_append_right (by omega), hll, show (ls.length + 1) * 2 - ls.length * 2 = 2 by omega]; rfl
end
set_option maxRecDepth 100000 in
set_option maxHeartbeats 8000000 in
theorem untouched_any (w : World) (nm nm' : ByteArray) (T : Nat) (vt : Tv) (r0 r1 tl tt : Tv) (ts : List Tv) (a0 a1 al : Option Addr) (n0 c0 n1 c1 nl cl : Nat) (b0 b1 : List Int) (ls : List Ln) (hP : PatI w a0 a1 al n0 n1 nl b0 b1 ls) (hsh : ShortP n0 n1 nl ls)
    (hT : Tc w T (tws nm' r0 r1 vt tl tt)) (hO : TwO w (T + 1) r0 r1 tl tt ts b0 b1 ls (lnc ls (ts.map cutT) ++ marks2) (ts.map tvv)) :
    Calls Tryd.prog 14 #[.pointer (some ⟨T, 0, none⟩), patV nm a0 a1 al n0 c0 n1 c1 nl cl] w fun e w' => e = .returned (.bool true) ∧ Kp w w' := by
  have hkb := Kp.new w (.cells #[.string nm, .slice a0 n0 c0, .slice a1 n1 c1, .slice al nl cl] 26)
  have hB := Bx.new w nm a0 a1 al n0 c0 n1 c1 nl cl
  have hOb := hO.kp hkb
  have hTb := hT.kp hkb
  obtain ⟨wb, hwb⟩ : ∃ wb, wb = w.alloc (.cells #[.string nm, .slice a0 n0 c0, .slice a1 n1 c1, .slice al nl cl] 26) := ⟨_, rfl⟩
  rw [← hwb] at hkb hB hOb hTb
  obtain ⟨bx, hbx⟩ : ∃ bx, bx = w.heap.size := ⟨_, rfl⟩
  rw [← hbx] at hB
  have HP := Lib.hid (hP.kp hkb)
  have Hkb := Lib.hid hkb
  have HB := Lib.hid hB
  have Hsh := Lib.hid hsh
  have Hll := Lib.hid hP.il.1
  obtain ⟨ra0, rn0, rc0⟩ := r0
  obtain ⟨ra1, rn1, rc1⟩ := r1
  obtain ⟨ta, tn, tc⟩ := tt
  obtain ⟨xa, xn, xc⟩ := tl
  obtain ⟨_, e0, hw0⟩ := own_is hOb.o0
  obtain ⟨_, e1, hw1⟩ := own_is hOb.o1
  obtain ⟨e2, e3⟩ := hOb.nk
  simp only at e0 e1 e2 e3 hw0 hw1
  rw [hP.i0.1] at e0
  rw [hP.i1.1] at e1
  rw [hP.il.1] at e2 e3
  subst e0; subst e1; subst e2; subst e3
  have HW0 := Lib.hid hw0
  have HW1 := Lib.hid hw1
  have HT := Lib.hid (show wb.cell? ⟨T, 4, none⟩ = some (.slice ra0 (n0 + 9) rc0) ∧ wb.cell? ⟨T, 5, none⟩ = some (.slice ra1 (n1 + 9) rc1) from ⟨hTb.cell 4 _ rfl, hTb.cell 5 _ rfl⟩)
  have HT2 := Lib.hid (show wb.cell? ⟨T, 6, none⟩ = some (.slice xa (tn + 2) xc) ∧ wb.cell? ⟨T, 7, none⟩ = some (.slice ta tn tc) from ⟨hTb.cell 6 _ rfl, hTb.cell 7 _ rfl⟩)
  have HO := Lib.hid hOb
  have htn := Hsh.out.2.2.1
  clear hP hkb hsh hT hO hOb hTb hw0 hw1
  obtain ⟨y0, y1, y2, y3⟩ := hB
  go_enter Tryd.func14, Tryd.ntmps14
  go_upto_region 1 with fail
  rw [← hwb, ← hbx]
  clear hwb hbx
  go_wp2_with fail
  clear y0 y1 y2 y3
  obtain ⟨w00, hw00⟩ : ∃ w00 : World, w00 = wb := ⟨_, rfl⟩
  go_loopw [6] (fun i wr => ∃ k : Nat, k ≤ 2 ∧ i = .int .i64 (k : Nat) ∧ Kp wb wr) (fun i _ => 2 - (intOf i).toNat)
  case atStart => exact ⟨0, by omega, rfl, Kp.refl _⟩
  case round =>
    clear hw00
    obtain ⟨k, hk, rfl, hkr⟩ := hrel
    rename World => wr
    obtain h | h | h : k = 0 ∨ k = 1 ∨ k = 2 := by omega
    · subst h
      rw [show ((0 : Nat) : Int) = 0 from rfl]
      have HSt := Lib.hid (fun m => stands_any (wr.drewN m) ra0 a0 n0 rc0 c0 b0 ((Kp.trans hkr (Kp.of_drewN wr m)).is HW0.out) ((Kp.trans hkr (Kp.of_drewN wr m)).is HP.out.i0) (by have := Hsh.out.1; omega))
      have z1 : wr.cell? ⟨T, 4, none⟩ = some (.slice ra0 (n0 + 9) rc0) := hkr.cell HT.out.1
      have z2 := hkr.cell HB.out.2.1
      go_wp2_with fail
      go_quiet (exact Calls.quiet_of (HSt.out _))
      generalize hwn : wr.drewN nq = wn
      have hkn : Kp wr wn := hwn ▸ Kp.of_drewN wr nq
      clear hwn z1 z2 HSt
      go_wp2_with fail
      go_roundw
      case rel => exact ⟨1, by omega, rfl, Kp.trans hkr hkn⟩
      case measure => simp [intOf]
    · subst h
      rw [show ((1 : Nat) : Int) = 1 from rfl]
      have HSt := Lib.hid (fun m => stands_any (wr.drewN m) ra1 a1 n1 rc1 c1 b1 ((Kp.trans hkr (Kp.of_drewN wr m)).is HW1.out) ((Kp.trans hkr (Kp.of_drewN wr m)).is HP.out.i1) (by have := Hsh.out.2.1; omega))
      have z1 : wr.cell? ⟨T, 5, none⟩ = some (.slice ra1 (n1 + 9) rc1) := hkr.cell HT.out.2
      have z2 := hkr.cell HB.out.2.2.1
      go_wp2_with fail
      go_quiet (exact Calls.quiet_of (HSt.out _))
      generalize hwn : wr.drewN nq = wn
      have hkn : Kp wr wn := hwn ▸ Kp.of_drewN wr nq
      clear hwn z1 z2 HSt
      go_wp2_with fail
      go_roundw
      case rel => exact ⟨2, by omega, rfl, Kp.trans hkr hkn⟩
      case measure => simp [intOf]
    · subst h
      rw [show ((2 : Nat) : Int) = 2 from rfl]
      go_wp2_with fail
      obtain ⟨w10, hw10⟩ : ∃ w10 : World, w10 = wr := ⟨_, rfl⟩
      go_loopw [7] (fun i wv => ∃ k : Nat, k ≤ tn ∧ i = .int .i64 (k : Nat) ∧ Kp wb wv) (fun i _ => tn - (intOf i).toNat)
      case atStart => exact ⟨0, by omega, rfl, hkr⟩
      case round =>
        clear hw10 hkr
        obtain ⟨k, hk, rfl, hkv⟩ := hrel
        rename World => wv
        by_cases hkn : k < tn
        · have hkl : k < ls.length := by have := Hll.out; omega
          obtain ⟨gt, gl, qa, qc, _, e1, e2, d1, d2, d3, d4, _⟩ := HO.out.at k hkl
          simp only at e1 e2
          obtain ⟨b, off, tp, tn2, td, rfl, hl1, hl2, hl3, hl4⟩ := HP.out.il.2.2 k hkl
          obtain rfl : tn2 = ls[k].2.length := hl3.1.symm
          have hsk := Hsh.out.2.2.2 _ (List.getElem_mem hkl)
          have HSt := Lib.hid (fun m => stands_any (wv.drewN m) qa tp ls[k].2.length qc td ls[k].2 ((Kp.trans hkv (Kp.of_drewN wv m)).is d4) ((Kp.trans hkv (Kp.of_drewN wv m)).is hl3) (by omega))
          replace d1 := hkv.cell d1
          replace d2 := hkv.cell d2
          replace d3 := hkv.cell d3
          replace hl1 := hkv.cell hl1
          replace hl2 := hkv.cell hl2
          have z3 := hkv.cell HB.out.2.2.2
          obtain ⟨z6, z7⟩ := HT2.out
          replace z6 := hkv.cell z6
          replace z7 := hkv.cell z7
          rw [e1] at z7
          rw [e2] at z6
          clear e1 e2 d4 hl3 hl4
          generalize ls[k]'hkl = u at *
          have hu : (u.1 != u.1) = false := by simp
          generalize u.1 = f at *
          generalize u.2.length = tl2 at *
          generalize u.2 = us at *
          go_wp2_with fail
          go_quiet (exact Calls.quiet_of (HSt.out _))
          generalize hwn : wv.drewN nq = wn
          have hkn2 : Kp wv wn := hwn ▸ Kp.of_drewN wv nq
          clear hwn d1 d2 d3 hl1 hl2 z3 z6 z7 HSt hu
          go_wp2_with fail
          go_roundw
          case rel => exact ⟨k + 1, by omega, by go_num, Kp.trans hkv hkn2⟩
          case measure => simp [intOf]; omega
        · obtain rfl : k = tn := by omega
          obtain ⟨gl, e2, m0, m1, m2⟩ := HO.out.behind
          simp only at e2
          rw [Hll.out] at m0 m1 m2
          replace m0 := hkv.cell m0
          replace m1 := hkv.cell m1
          replace m2 := hkv.cell m2
          obtain ⟨z6, _⟩ := HT2.out
          replace z6 := hkv.cell z6
          rw [e2] at z6
          clear e2
          go_wp2_with fail
          go_ret
          exact ⟨rfl, Kp.trans Hkb.out hkv⟩
end Go.Proofs.YtjbjgpcldcpjmaaDoor
