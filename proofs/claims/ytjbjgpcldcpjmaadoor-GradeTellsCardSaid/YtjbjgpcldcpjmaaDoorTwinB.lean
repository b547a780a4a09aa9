/- A pattern with room behind its lists. Conditions: the pattern lies there (Is, Lns), its lists short. -/
import Derived.Test.YtjbjgpcldcpjmaaDoorTwinP
import Derived.Test.YtjbjgpcldcpjmaaDoorGa3
import Derived.Test.YtjbjgpcldcpjmaaDoorGa1
namespace Go.Proofs.YtjbjgpcldcpjmaaDoor
open Go.RowKit

def marks2 : List Value := [iv 71, .slice none 0 0, iv 72, .slice none 0 0]
/-- The two rows of what is known ahead, when k of them are made. -/
def Tw1 (wb : World) (T : Nat) (nm : ByteArray) (b0 b1 : List Int) (k : Nat) (w : World) : Prop :=
  Kp wb w ∧ ∃ r0 r1, Tc w T (tws nm r0 r1 nilT nilT nilT) ∧ (k = 0 → r0 = nilT) ∧ (k ≤ 1 → r1 = nilT) ∧ (0 < k → Own w (T + 1) 3 1 r0.ao r0.n r0.c ((roomL b0).map iv)) ∧
    (1 < k → Own w (T + 1) 3 1 r1.ao r1.n r1.c ((roomL b1).map iv) ∧ ∀ x ∈ blkL r0.ao, x ∉ blkL r1.ao)
/-- What a twin is. -/
def TwinPost (w : World) (nm : ByteArray) (b0 b1 : List Int) (ls : List Ln) (e : Ending) (w' : World) : Prop :=
  ∃ T r0 r1 tl tt ts, e = .returned (.pointer (some ⟨T, 0, none⟩)) ∧ Kp w w' ∧ w.heap.size < T ∧ Tc w' T (tws nm r0 r1 ⟨tl.ao, ls.length, tl.c⟩ tl tt) ∧ TwO w' (T + 1) r0 r1 tl tt ts b0 b1 ls (lnc ls (ts.map cutT) ++ marks2) (ts.map tvv)
/-- The cells that a round looks at. -/
structure Cl4 (bx b T o : Nat) (f : Int) (vt vp vc : Value) (w : World) : Prop where
  t : w.cell? ⟨T, 6, none⟩ = some vt
  p : w.cell? ⟨bx, 3, none⟩ = some vp
  c0 : w.cell? ⟨b, o, none⟩ = some (iv f)
  c1 : w.cell? ⟨b, o + 1, none⟩ = some vc
theorem Cl4.kp {bx b T o : Nat} {f : Int} {vt vp vc : Value} {w w' : World} (h : Cl4 bx b T o f vt vp vc w) (k : Kp w w') : Cl4 bx b T o f vt vp vc w' := ⟨k.cell h.t, k.cell h.p, k.cell h.c0, k.cell h.c1⟩
set_option maxRecDepth 100000 in
set_option maxHeartbeats 4000000 in
theorem twin_any (w : World) (nm : ByteArray) (a0 a1 al : Option Addr) (n0 c0 n1 c1 nl cl : Nat) (b0 b1 : List Int) (ls : List Ln) (hP : PatI w a0 a1 al n0 n1 nl b0 b1 ls) (hsh : ShortP n0 n1 nl ls) :
    Calls Tryd.prog 9 #[patV nm a0 a1 al n0 c0 n1 c1 nl cl] w (TwinPost w nm b0 b1 ls) := by
  have Hll := Lib.hid hP.il.1
  have hkb := Kp.new w (.cells #[.string nm, .slice a0 n0 c0, .slice a1 n1 c1, .slice al nl cl] 26)
  have hB := Bx.new w nm a0 a1 al n0 c0 n1 c1 nl cl
  obtain ⟨wb, hwb⟩ : ∃ wb, wb = w.alloc (.cells #[.string nm, .slice a0 n0 c0, .slice a1 n1 c1, .slice al nl cl] 26) := ⟨_, rfl⟩
  rw [← hwb] at hkb hB
  obtain ⟨bx, hbx⟩ : ∃ bx, bx = w.heap.size := ⟨_, rfl⟩
  rw [← hbx] at hB
  have HP := Lib.hid (hP.kp hkb)
  have Hkb := Lib.hid hkb
  have Hbx := Lib.hid hbx
  have HB := Lib.hid hB
  have Hsh := Lib.hid hsh
  obtain ⟨y0, y1, y2, y3⟩ := hB
  clear hP hkb hsh
  go_enter Tryd.func9, Tryd.ntmps9
  go_upto_region 1 with fail
  rw [← hwb, ← hbx]
  clear hwb hbx
  go_upto_region 2 with fail
  change Code.wp _ _ _ _ (wb.alloc (.cells #[.string nm, .slice none 0 0, .slice none 0 0, .slice none 0 0, .slice none 0 0, .slice none 0 0, .slice none 0 0, .slice none 0 0] 37))
  have hkT := Kp.new wb (.cells #[.string nm, .slice none 0 0, .slice none 0 0, .slice none 0 0, .slice none 0 0, .slice none 0 0, .slice none 0 0, .slice none 0 0] 37)
  have hTc : Tc (wb.alloc (.cells #[.string nm, .slice none 0 0, .slice none 0 0, .slice none 0 0, .slice none 0 0, .slice none 0 0, .slice none 0 0, .slice none 0 0] 37)) wb.heap.size (tws nm nilT nilT nilT nilT nilT) := Tc.new wb (tws nm nilT nilT nilT nilT nilT) 37
  generalize wb.alloc (.cells #[.string nm, .slice none 0 0, .slice none 0 0, .slice none 0 0, .slice none 0 0, .slice none 0 0, .slice none 0 0, .slice none 0 0] 37) = wT at *
  have hbT : bx < wb.heap.size := HB.out.lt
  obtain ⟨T, hT⟩ : ∃ T, T = wb.heap.size := ⟨_, rfl⟩
  rw [← hT] at hTc hbT ⊢
  have hTb : wb.heap.size ≤ T := by omega
  clear hT y0 y1 y2 y3
  go_wp2_with fail
  have h0 : Tw1 wb T nm b0 b1 0 wT := ⟨hkT, nilT, nilT, hTc, fun _ => rfl, fun _ => rfl, by omega, by omega⟩
  clear hkT hTc
  go_loopw [4] (fun i wr => ∃ k : Nat, k ≤ 2 ∧ i = .int .i64 (k : Nat) ∧ Tw1 wb T nm b0 b1 k wr) (fun i _ => 2 - (intOf i).toNat)
  case atStart => exact ⟨0, by omega, rfl, h0⟩
  case round =>
    clear h0
    obtain ⟨k, hk, rfl, hkr, hrr⟩ := hrel
    rename World => wr
    obtain h | h | h : k = 0 ∨ k = 1 ∨ k = 2 := by omega
    · subst h
      rw [show ((0 : Nat) : Int) = 0 from rfl]
      have hcx := hkr.cell HB.out.2.1
      obtain ⟨r0, r1, hT, hr0, hr1, hO0, hO1⟩ := hrr
      obtain rfl := hr1 (by omega)
      obtain rfl := hr0 rfl
      have hn : n0 ≤ 200 := Hsh.out.1
      have hTr := hT.lt
      clear hr0 hr1 hO1 hO0
      go_upto_region 5 with fail
      refine anyH_start (fun w => w.cell? ⟨bx, 1, none⟩ = some (.slice a0 n0 c0)) (by kernel_rfl) ?_
      generalize hwq : wr.drew = wd
      have hkd : Kp wr wd := hwq ▸ (⟨rfl, rfl, rfl, Nat.le_refl _, fun _ _ => rfl⟩ : Kp wr wr.drew)
      clear hwq
      have hS := hkd.cell hcx
      have hTd := hT.kp hkd

      have hKd := Kp.trans hkr hkd
      have hTs : T < wd.heap.size := Nat.lt_of_lt_of_le hTr hkd.size
      clear hT hkr hkd hcx hTr
      refine anyH_take [0, 1, 2, 3, 4, 7, 8] (by kernel_rfl) hS ?_
      simp only [opsAt, List.getElem?_toArray, List.getElem?_cons_zero, List.getElem?_cons_succ]
      repeat (go_big_quiet_step (fail))
      refine wpQuiet_nil ?_
      refine anyH_load 5 22 (.slice a0 n0 c0) rfl rfl (by kernel_rfl) hS (fun w h => exec_load22 h rfl rfl) ?_
      simp only [Act.put, List.setIfInBounds_toArray, List.set_cons_zero, List.set_cons_succ]
      refine anyH_one 6 (by kernel_rfl) ?_
      simp only [opsAt, List.getElem?_toArray, List.getElem?_cons_zero, List.getElem?_cons_succ]
      have HRm := Lib.hid (room_any wd a0 n0 c0 b0 (hKd.is HP.out.i0) (by omega))
      have HS := Lib.hid hS
      clear hS
      go_wp2_with fail
      (with_reducible refine HRm.out.mono ?_)
      rintro e w3 ⟨hk3, rfl, hO3⟩
      have HS3 := Lib.hid (hk3.cell HS.out)
      have hT3 := hTd.kp hk3
      have hK3 := Kp.trans hKd hk3

      clear HS HRm hTd hKd hk3
      obtain ⟨g, hg⟩ : ∃ g, g = wd.heap.size := ⟨_, rfl⟩
      rw [← hg] at hO3 hTs ⊢
      clear hg
      obtain ⟨N, hN⟩ : ∃ N, N = n0 + 9 := ⟨_, rfl⟩
      rw [← hN] at hO3 ⊢
      have HN := Lib.hid hN
      have hNn : n0 ≤ N := by omega
      have hN0 : N ≠ 0 := by omega
      clear hN
      go_wp2_with fail
      refine ⟨HS3.out, ?_⟩
      refine anyH_one 9 (by kernel_rfl) ?_
      simp only [opsAt, List.getElem?_toArray, List.getElem?_cons_zero, List.getElem?_cons_succ]
      go_wp2_with fail
      refine ⟨HS3.out, ?_⟩
      refine anyH_one 10 (by kernel_rfl) ?_
      simp only [opsAt, List.getElem?_toArray, List.getElem?_cons_zero, List.getElem?_cons_succ]
      have hc4 := hT3.cell 4 _ rfl
      have hf4 := hT3.free 4 _ rfl
      have hS4 := Fr.set w3 ⟨T, 4, none⟩ (.slice (some ⟨g, 0, none⟩) N N)
      have hT4 := Lib.hid (hT3.set 4 (by simp [tws]) (.slice (some ⟨g, 0, none⟩) N N))
      have hK4 := Lib.hid (((Fr.of_kp hK3).step hS4 (fun x hx => .inr (by simp only [List.mem_singleton] at hx; have := hTb; omega))).kp)
      have hO4 := Lib.hid ((hO3.mono (base' := T + 1) (fun k hk => by simp [blk] at hk; omega)).keep (Kp.refl _))
      have hO5 := Lib.hid (hS4.own hO4.out (fun x hx => by simp [blkL, blk] at hx; simp; omega))

      have HS4 := Lib.hid (hS4.cell HS3.out (by simp; omega))
      clear hT3 hK3 hO3 hO4 hS4
      go_wp2_with fail
      refine ⟨by first | exact HS3.out | exact HS4.out, ?_⟩
      refine anyH_end (by kernel_rfl) ?_
      clear hc4 hf4
      go_upto_region 6 with fail
      change Code.wp _ _ _ _ (w3.setCell ⟨T, 4, none⟩ (.slice (some ⟨g, 0, none⟩) N N))
      generalize w3.setCell ⟨T, 4, none⟩ (.slice (some ⟨g, 0, none⟩) N N) = w4 at *
      obtain ⟨w5, hw5⟩ : ∃ w5, w5 = w4.drew := ⟨_, rfl⟩
      have hkd : Kp w4 w5 := hw5 ▸ (⟨rfl, rfl, rfl, Nat.le_refl _, fun _ _ => rfl⟩ : Kp w4 w4.drew)
      have Hw5 := Lib.hid hw5
      clear hw5
      have HT5 := hT4.out.kp hkd
      have hb1 := HT5.cell 4 _ rfl
      have hb2 := hkd.cell HS4.out
      have hd1 := HT5.cell 1 _ rfl
      have hd2 := HT5.free 1 _ rfl
      have hS5 := Fr.set w5 ⟨T, 1, none⟩ (.slice (some ⟨g, 0, none⟩) n0 N)
      have HT6 := Lib.hid (HT5.set 1 (by simp [tws]) (.slice (some ⟨g, 0, none⟩) n0 N))
      have HK6 := Lib.hid (((Fr.of_kp (Kp.trans hK4.out hkd)).step hS5 (fun x hx => .inr (by simp only [List.mem_singleton] at hx; have := hTb; omega))).kp)
      have HO6 := Lib.hid (hS5.own (hO5.out.keep hkd) (fun x hx => by simp [blkL, blk] at hx; simp; omega))

      clear hT4 hO5 hK4 HT5 hS5 hkd HS4 HS3
      refine region_tailq 18 (by kernel_rfl) (by kernel_rfl) ?_
      rw [← Hw5.out]
      simp only [List.take_succ_cons, List.take_zero, List.drop_succ_cons, List.drop_zero]
      repeat (go_big_quiet_step (fail))
      refine wpQuiet_nil ?_
      go_wp2_with fail
      clear hb1 hb2 hd1 hd2
      go_roundw
      case rel =>
        refine ⟨1, by omega, rfl, HK6.out, ⟨some ⟨g, 0, none⟩, N, N⟩, nilT, ?_, by omega, fun _ => rfl, fun _ => HO6.out, by omega⟩
        · have := HT6.out
          have e : N - 9 = n0 := by have := HN.out; omega
          simpa [tws, cutT, tvv, nilT, e] using this

      case measure => simp [intOf]
    · subst h
      rw [show ((1 : Nat) : Int) = 1 from rfl]
      have hcx := hkr.cell HB.out.2.2.1
      obtain ⟨r0, r1, hT, hr0, hr1, hO0, hO1⟩ := hrr
      obtain rfl := hr1 (by omega)
      have hO0 := hO0 (by omega)
      have hn : n1 ≤ 200 := Hsh.out.2.1
      have hTr := hT.lt
      clear hr0 hr1 hO1
      go_upto_region 5 with fail
      refine anyH_start (fun w => w.cell? ⟨bx, 2, none⟩ = some (.slice a1 n1 c1)) (by kernel_rfl) ?_
      generalize hwq : wr.drew = wd
      have hkd : Kp wr wd := hwq ▸ (⟨rfl, rfl, rfl, Nat.le_refl _, fun _ _ => rfl⟩ : Kp wr wr.drew)
      clear hwq
      have hS := hkd.cell hcx
      have hTd := hT.kp hkd
      have hOd := hO0.keep hkd
      have hKd := Kp.trans hkr hkd
      have hTs : T < wd.heap.size := Nat.lt_of_lt_of_le hTr hkd.size
      clear hT hkr hkd hcx hTr hO0
      refine anyH_take [0, 1, 2, 3, 4, 7, 8] (by kernel_rfl) hS ?_
      simp only [opsAt, List.getElem?_toArray, List.getElem?_cons_zero, List.getElem?_cons_succ]
      repeat (go_big_quiet_step (fail))
      refine wpQuiet_nil ?_
      refine anyH_load 5 22 (.slice a1 n1 c1) rfl rfl (by kernel_rfl) hS (fun w h => exec_load22 h rfl rfl) ?_
      simp only [Act.put, List.setIfInBounds_toArray, List.set_cons_zero, List.set_cons_succ]
      refine anyH_one 6 (by kernel_rfl) ?_
      simp only [opsAt, List.getElem?_toArray, List.getElem?_cons_zero, List.getElem?_cons_succ]
      have HRm := Lib.hid (room_any wd a1 n1 c1 b1 (hKd.is HP.out.i1) (by omega))
      have HS := Lib.hid hS
      clear hS
      go_wp2_with fail
      (with_reducible refine HRm.out.mono ?_)
      rintro e w3 ⟨hk3, rfl, hO3⟩
      have HS3 := Lib.hid (hk3.cell HS.out)
      have hT3 := hTd.kp hk3
      have hK3 := Kp.trans hKd hk3
      have hO03 := hOd.keep hk3
      have hg0 := fun x hx => (hOd.lt x (mem_blkL.1 hx)).2
      clear HS HRm hTd hKd hk3 hOd
      obtain ⟨g, hg⟩ : ∃ g, g = wd.heap.size := ⟨_, rfl⟩
      rw [← hg] at hO3 hTs hg0 ⊢
      clear hg
      obtain ⟨N, hN⟩ : ∃ N, N = n1 + 9 := ⟨_, rfl⟩
      rw [← hN] at hO3 ⊢
      have HN := Lib.hid hN
      have hNn : n1 ≤ N := by omega
      have hN0 : N ≠ 0 := by omega
      clear hN
      go_wp2_with fail
      refine ⟨HS3.out, ?_⟩
      refine anyH_one 9 (by kernel_rfl) ?_
      simp only [opsAt, List.getElem?_toArray, List.getElem?_cons_zero, List.getElem?_cons_succ]
      go_wp2_with fail
      refine ⟨HS3.out, ?_⟩
      refine anyH_one 10 (by kernel_rfl) ?_
      simp only [opsAt, List.getElem?_toArray, List.getElem?_cons_zero, List.getElem?_cons_succ]
      have hc4 := hT3.cell 5 _ rfl
      have hf4 := hT3.free 5 _ rfl
      have hS4 := Fr.set w3 ⟨T, 5, none⟩ (.slice (some ⟨g, 0, none⟩) N N)
      have hT4 := Lib.hid (hT3.set 5 (by simp [tws]) (.slice (some ⟨g, 0, none⟩) N N))
      have hK4 := Lib.hid (((Fr.of_kp hK3).step hS4 (fun x hx => .inr (by simp only [List.mem_singleton] at hx; have := hTb; omega))).kp)
      have hO4 := Lib.hid ((hO3.mono (base' := T + 1) (fun k hk => by simp [blk] at hk; omega)).keep (Kp.refl _))
      have hO5 := Lib.hid (hS4.own hO4.out (fun x hx => by simp [blkL, blk] at hx; simp; omega))
      have hO6 := Lib.hid (hS4.own hO03 (fun x hx => by have := (hO03.lt x (mem_blkL.1 hx)).1; simp; omega))
      have HS4 := Lib.hid (hS4.cell HS3.out (by simp; omega))
      clear hT3 hK3 hO3 hO4 hS4 hO03
      go_wp2_with fail
      refine ⟨by first | exact HS3.out | exact HS4.out, ?_⟩
      refine anyH_end (by kernel_rfl) ?_
      clear hc4 hf4
      go_upto_region 6 with fail
      change Code.wp _ _ _ _ (w3.setCell ⟨T, 5, none⟩ (.slice (some ⟨g, 0, none⟩) N N))
      generalize w3.setCell ⟨T, 5, none⟩ (.slice (some ⟨g, 0, none⟩) N N) = w4 at *
      obtain ⟨w5, hw5⟩ : ∃ w5, w5 = w4.drew := ⟨_, rfl⟩
      have hkd : Kp w4 w5 := hw5 ▸ (⟨rfl, rfl, rfl, Nat.le_refl _, fun _ _ => rfl⟩ : Kp w4 w4.drew)
      have Hw5 := Lib.hid hw5
      clear hw5
      have HT5 := hT4.out.kp hkd
      have hb1 := HT5.cell 5 _ rfl
      have hb2 := hkd.cell HS4.out
      have hd1 := HT5.cell 2 _ rfl
      have hd2 := HT5.free 2 _ rfl
      have hS5 := Fr.set w5 ⟨T, 2, none⟩ (.slice (some ⟨g, 0, none⟩) n1 N)
      have HT6 := Lib.hid (HT5.set 2 (by simp [tws]) (.slice (some ⟨g, 0, none⟩) n1 N))
      have HK6 := Lib.hid (((Fr.of_kp (Kp.trans hK4.out hkd)).step hS5 (fun x hx => .inr (by simp only [List.mem_singleton] at hx; have := hTb; omega))).kp)
      have HO6 := Lib.hid (hS5.own (hO5.out.keep hkd) (fun x hx => by simp [blkL, blk] at hx; simp; omega))
      have HO7 := Lib.hid (hS5.own (hO6.out.keep hkd) (fun x hx => by have := (hO6.out.lt x (mem_blkL.1 hx)).1; simp; omega))
      clear hT4 hO5 hK4 HT5 hS5 hkd HS4 HS3 hO6
      refine region_tailq 18 (by kernel_rfl) (by kernel_rfl) ?_
      rw [← Hw5.out]
      simp only [List.take_succ_cons, List.take_zero, List.drop_succ_cons, List.drop_zero]
      repeat (go_big_quiet_step (fail))
      refine wpQuiet_nil ?_
      go_wp2_with fail
      clear hb1 hb2 hd1 hd2
      go_roundw
      case rel =>
        refine ⟨2, by omega, rfl, HK6.out, r0, ⟨some ⟨g, 0, none⟩, N, N⟩, ?_, by omega, by omega, fun _ => HO7.out, ?_⟩
        · have := HT6.out
          have e : N - 9 = n1 := by have := HN.out; omega
          simpa [tws, cutT, tvv, nilT, e] using this
        · intro _
          refine ⟨HO6.out, fun x hx hq => ?_⟩
          have := hg0 x hx
          simp [blkL, blk] at hq
          omega
      case measure => simp [intOf]
    · subst h
      rw [show ((2 : Nat) : Int) = 2 from rfl]
      obtain ⟨r0, r1, hT, _, _, hO0, hO1⟩ := hrr
      have hO0 := hO0 (by omega)
      obtain ⟨hO1, hd01⟩ := hO1 (by omega)
      have hS0 : TwS wb wr T (tws nm r0 r1 nilT nilT nilT) r0 r1 nilT nilT [] b0 b1 [] [] [] := ⟨hkr, hT, TwO.start hO0 hO1 hd01, hTb⟩
      clear hkr hT hO0 hO1 hd01
      go_wp2_with fail
      go_loopw [5] (fun i wv => ∃ (k : Nat) (xa ta : Option Addr) (xc tc : Nat) (ts : List Tv), k ≤ nl ∧ i = .int .i64 (k : Nat) ∧ ts.length = k ∧ TwS wb wv T (tws nm r0 r1 nilT ⟨xa, k, xc⟩ ⟨ta, k, tc⟩) r0 r1 ⟨xa, k, xc⟩ ⟨ta, k, tc⟩ ts b0 b1 (ls.take k) (lnc (ls.take k) (ts.map cutT)) (ts.map tvv)) (fun i _ => nl - (intOf i).toNat)
      case atStart => exact ⟨0, none, none, 0, 0, [], by omega, rfl, rfl, hS0⟩
      case round =>
        clear hS0
        obtain ⟨k, xa, ta, xc, tc, ts, hk, rfl, hts, hS⟩ := hrel
        rename World => wv
        have c3 := hS.kp.cell HB.out.2.2.2
        have hlen := Hll.out
        by_cases hkn : k < nl
        · have hkl : k < ls.length := by omega
          obtain ⟨b, off, tp, tn, td, rfl, hl1, hl2, hl3, hl4⟩ := HP.out.il.2.2 k hkl
          have htk : tn ≤ 200 := by
            have h1 := Hsh.out.2.2.2 _ (List.getElem_mem hkl)
            have h2 := hl3.1
            omega
          have Hlx := Lib.hid (take_step ls k hkl)
          have Hln := Lib.hid hl3.1
          have c4 := hS.kp.cell hl1
          have c5 := hS.kp.cell hl2
          have HRm := Lib.hid (room_any wv tp tn td ls[k].2 (hS.kp.is hl3) (by omega))
          clear hl3 hl4
          generalize ls[k]'hkl = u at *
          go_wp2_with fail
          (with_reducible refine HRm.out.mono ?_)
          rintro e w3 ⟨hk3, rfl, hO3⟩
          obtain ⟨g, hg⟩ : ∃ g, g = wv.heap.size := ⟨_, rfl⟩
          rw [← hg] at hO3 ⊢
          obtain ⟨N, hN⟩ : ∃ N, N = tn + 9 := ⟨_, rfl⟩
          rw [← hN] at hO3 ⊢
          have HN := Lib.hid hN
          have hNn : tn ≤ N := by omega
          have hN0 : N ≠ 0 := by omega
          have hTl : T < g := by have := hS.tc.lt; omega
          have hS3 := hS.more (l := u) (t := ⟨some ⟨g, 0, none⟩, N, N⟩) hk3 (hO3.mono (fun k hk => by simp [blk] at hk; omega)) (fun y hy => by simp [blkL, blk] at hy; omega)
          rw [← Hlx.out] at hS3
          replace c3 := hk3.cell c3
          replace c4 := hk3.cell c4
          replace c5 := hk3.cell c5
          have HL1 := Lib.hid hl1
          have HL2 := Lib.hid hl2
          clear hN hS hO3 hk3 hg HRm hl1 hl2
          have hm7 : w3.cell? ⟨T, 7, none⟩ = some (.slice ta k tc) := hS3.tc.cell 7 _ rfl
          have hk7 := Kp.new w3 (.cells #[.slice (some ⟨g, 0, none⟩) N N] 22)
          have hkb : (k + 1) * 24 ≤ 140737488355328 := by have := Hsh.out.2.2.1; omega
          have hkb2 : (k + 1) * 32 ≤ 140737488355328 := by have := Hsh.out.2.2.1; omega
          have htz : (ts ++ [(⟨some ⟨g, 0, none⟩, N, N⟩ : Tv)]).map tvv = ts.map tvv ++ [.slice (some ⟨g, 0, none⟩) N N] := by simp [tvv]
          have hT3 : T + 1 ≤ (w3.alloc (.cells #[.slice (some ⟨g, 0, none⟩) N N] 22)).heap.size := by have := hS3.tc.lt; have := hk7.size; omega
          go_upto_region 11 with fail
          go_upto_region 12 with (at_builtin; go_loud (refine wpList_app rfl (.tmp 63) (.tmp 65) 35 rfl el35 (T + 1) rfl (hS3.keep hk7).two.ok rfl [.slice (some ⟨g, 0, none⟩) N N] rfl (Cs.new w3 [.slice (some ⟨g, 0, none⟩) N N] 22 (0, 0)) (by simp [Value.oneCell']) (k + 1) rfl ((ts ++ [(⟨some ⟨g, 0, none⟩, N, N⟩ : Tv)]).map tvv) htz hkb hT3 ?_); intro ta2 tc2 w8 ha; have hS8 := hS3.appk ha; have hm8 := hS8.tc.cell 7 _ rfl; have hf8 := hS8.tc.free 7 _ rfl)
          have hS9 := hS8.set 7 (by simp [tws]) (.slice ta2 (k + 1) tc2)
          replace hS9 : TwS wb (w8.setCell ⟨T, 7, none⟩ (.slice ta2 (k + 1) tc2)) T (tws nm r0 r1 nilT ⟨xa, k, xc⟩ ⟨ta2, k + 1, tc2⟩) r0 r1 ⟨xa, k, xc⟩ ⟨ta2, k + 1, tc2⟩ (ts ++ [⟨some ⟨g, 0, none⟩, N, N⟩]) b0 b1 (ls.take (k + 1)) (lnc (ls.take k) (ts.map cutT)) ((ts ++ [(⟨some ⟨g, 0, none⟩, N, N⟩ : Tv)]).map tvv) := hS9
          change Code.wp _ _ _ _ (w8.setCell ⟨T, 7, none⟩ (.slice ta2 (k + 1) tc2))
          generalize w8.setCell ⟨T, 7, none⟩ (.slice ta2 (k + 1) tc2) = w9 at *
          obtain ⟨w10, hw10⟩ : ∃ w10, w10 = w9.drew := ⟨_, rfl⟩
          have hkd : Kp w9 w10 := hw10 ▸ (⟨rfl, rfl, rfl, Nat.le_refl _, fun _ _ => rfl⟩ : Kp w9 w9.drew)
          have hS10 := hS9.keep hkd
          have Hw10 := Lib.hid hw10
          clear hw10 hS9 hS8 hm8 hf8 ha hS3 c3 c4 c5 hm7 hk7 htz hkb hT3 hkd
          have c3 := hS10.kp.cell HB.out.2.2.2
          have c4 := hS10.kp.cell HL1.out
          have c5 := hS10.kp.cell HL2.out
          have hm6 : w10.cell? ⟨T, 6, none⟩ = some (.slice xa k xc) := hS10.tc.cell 6 _ rfl
          have hk10 := Kp.new w10 (.cells #[iv u.1, .slice (some ⟨g, 0, none⟩) tn N] 43)
          have hT10 : T + 1 ≤ (w10.alloc (.cells #[iv u.1, .slice (some ⟨g, 0, none⟩) tn N] 43)).heap.size := by have := hS10.tc.lt; have := hk10.size; omega
          have hlz : lnc (ls.take (k + 1)) ((ts ++ [(⟨some ⟨g, 0, none⟩, N, N⟩ : Tv)]).map cutT) = lnc (ls.take k) (ts.map cutT) ++ [iv u.1, .slice (some ⟨g, 0, none⟩) tn N] := by
            have e : N - 9 = tn := by have := HN.out; omega
            rw [Hlx.out, List.map_append, List.map_cons, List.map_nil, lnc_append _ _ (by rw [List.length_map, List.length_take]; omega)]
            simp [cutT, tvv, e]
          refine anyP_start (Cl4 bx b T (off + k * 2) u.1 (.slice xa k xc) (.slice (some ⟨b, off, none⟩) nl cl) (.slice tp tn td)) 25 (fun _ => True) (fun _ _ => False) (by kernel_rfl) (fun _ _ _ _ h => h.elim) ?_
          rw [← Hw10.out]
          have hq : Cl4 bx b T (off + k * 2) u.1 (.slice xa k xc) (.slice (some ⟨b, off, none⟩) nl cl) (.slice tp tn td) w10 := ⟨hm6, c3, c4, c5⟩
          clear c3 c4 c5 hm6
          refine anyP_take puts_true [0, 1, 2, 3, 5, 7, 11, 12, 14] (by kernel_rfl) hq ?_
          simp only [opsAt, List.getElem?_toArray, List.getElem?_cons_zero, List.getElem?_cons_succ]
          repeat (go_big_quiet_step (fail))
          refine wpQuiet_nil ?_
          refine anyP_load puts_true 4 73 (.slice xa k xc) rfl rfl (by kernel_rfl) hq (fun w h => exec_load24 h.t rfl rfl) ?_
          simp only [Act.put, List.setIfInBounds_toArray, List.set_cons_zero, List.set_cons_succ]
          refine anyP_load puts_true 6 75 (.slice (some ⟨b, off, none⟩) nl cl) rfl rfl (by kernel_rfl) hq (fun w h => exec_load24 h.p rfl rfl) ?_
          simp only [Act.put, List.setIfInBounds_toArray, List.set_cons_zero, List.set_cons_succ]
          refine anyP_load puts_true 13 82 (.slice (some ⟨b, off, none⟩) nl cl) rfl rfl (by kernel_rfl) hq (fun w h => exec_load24 h.p rfl rfl) ?_
          simp only [Act.put, List.setIfInBounds_toArray, List.set_cons_zero, List.set_cons_succ]
          refine anyP_take puts_true [8, 9, 15, 16] (by kernel_rfl) hq ?_
          simp only [opsAt, List.getElem?_toArray, List.getElem?_cons_zero, List.getElem?_cons_succ]
          repeat (go_big_quiet_step (fail))
          refine wpQuiet_nil ?_
          refine anyP_load puts_true 10 79 (iv u.1) rfl rfl (by kernel_rfl) hq (fun w h => exec_load3 h.c0 rfl rfl) ?_
          simp only [Act.put, List.setIfInBounds_toArray, List.set_cons_zero, List.set_cons_succ]
          refine anyP_load puts_true 17 86 (.slice tp tn td) rfl rfl (by kernel_rfl) hq (fun w h => exec_load22 h.c1 rfl rfl) ?_
          simp only [Act.put, List.setIfInBounds_toArray, List.set_cons_zero, List.set_cons_succ]
          refine anyP_take puts_true [18, 19, 20] (by kernel_rfl) hq ?_
          simp only [opsAt, List.getElem?_toArray, List.getElem?_cons_zero, List.getElem?_cons_succ]
          repeat (go_big_quiet_step (fail))
          refine wpQuiet_nil ?_
          have hqa := hq.kp hk10
          have Hqa := Lib.hid hqa
          clear hq hqa
          refine anyP_one 21 (by kernel_rfl) ?_
          simp only [opsAt, List.getElem?_toArray, List.getElem?_cons_zero, List.getElem?_cons_succ]
          go_wp2_with fail
          refine ⟨fun _ => Hqa.out, ?_⟩
          refine anyP_one 22 (by kernel_rfl) ?_
          simp only [opsAt, List.getElem?_toArray, List.getElem?_cons_zero, List.getElem?_cons_succ]
          go_wp2_with (at_builtin; go_loud (refine wpList_app rfl (.tmp 73) (.tmp 90) 24 rfl el24 (T + 1) rfl (hS10.keep hk10).two.ol rfl [iv u.1, .slice (some ⟨g, 0, none⟩) tn N] rfl (Cs.new w10 [iv u.1, .slice (some ⟨g, 0, none⟩) tn N] 43 (0, 0)) (by simp [Value.oneCell']) (k + 1) rfl (lnc (ls.take (k + 1)) ((ts ++ [(⟨some ⟨g, 0, none⟩, N, N⟩ : Tv)]).map cutT)) hlz hkb2 hT10 ?_); intro xa2 xc2 w11 hb)
          have hS11 := hS10.appl hb
          have Hqb := Lib.hid (show Cl4 bx b T (off + k * 2) u.1 (.slice xa k xc) (.slice (some ⟨b, off, none⟩) nl cl) (.slice tp tn td) w11 from ⟨hS11.tc.cell 6 _ rfl, hS11.kp.cell HB.out.2.2.2, hS11.kp.cell HL1.out, hS11.kp.cell HL2.out⟩)
          refine ⟨fun _ => Hqb.out, ?_⟩
          refine anyP_one 23 (by kernel_rfl) ?_
          simp only [opsAt, List.getElem?_toArray, List.getElem?_cons_zero, List.getElem?_cons_succ]
          go_wp2_with fail
          refine ⟨fun _ => Hqb.out, ?_⟩
          refine anyP_one 24 (by kernel_rfl) ?_
          simp only [opsAt, List.getElem?_toArray, List.getElem?_cons_zero, List.getElem?_cons_succ]
          go_wp2_with fail
          refine ⟨fun _ => Hqb.out, ?_⟩
          have hm11 := hS11.tc.cell 6 _ rfl
          have hf11 := hS11.tc.free 6 _ rfl
          refine anyP_one 25 (by kernel_rfl) ?_
          simp only [opsAt, List.getElem?_toArray, List.getElem?_cons_zero, List.getElem?_cons_succ]
          go_wp2_with fail
          refine ⟨fun h => absurd rfl h, ?_⟩
          refine anyP_end (by kernel_rfl) ?_
          have hS12 := hS11.set 6 (by simp [tws]) (.slice xa2 (k + 1) xc2)
          have Hfin := Lib.hid (show TwS wb (w11.setCell ⟨T, 6, none⟩ (.slice xa2 (k + 1) xc2)) T (tws nm r0 r1 nilT ⟨xa2, k + 1, xc2⟩ ⟨ta2, k + 1, tc2⟩) r0 r1 ⟨xa2, k + 1, xc2⟩ ⟨ta2, k + 1, tc2⟩ (ts ++ [⟨some ⟨g, 0, none⟩, N, N⟩]) b0 b1 (ls.take (k + 1)) (lnc (ls.take (k + 1)) ((ts ++ [(⟨some ⟨g, 0, none⟩, N, N⟩ : Tv)]).map cutT)) ((ts ++ [(⟨some ⟨g, 0, none⟩, N, N⟩ : Tv)]).map tvv) from hS12)
          clear hS12 hS11 hS10 hm11 hf11 hb
          go_wp2_with fail
          go_roundw
          case rel => exact ⟨k + 1, xa2, ta2, xc2, tc2, _, by omega, by go_num, by simp [hts], Hfin.out⟩
          case measure => simp [intOf]; omega
        · obtain rfl : k = nl := by omega
          have hls : ls.take k = ls := List.take_of_length_le (by omega)
          rw [hls] at hS
          have hm6 : wv.cell? ⟨T, 6, none⟩ = some (.slice xa k xc) := hS.tc.cell 6 _ rfl
          have hkA := Kp.new wv (.cells #[iv 71, .slice none 0 0, iv 72, .slice none 0 0] 43)
          have hkb2 : (k + 2) * 32 ≤ 140737488355328 := by have := Hsh.out.2.2.1; omega
          have hTA : T + 1 ≤ (wv.alloc (.cells #[iv 71, .slice none 0 0, iv 72, .slice none 0 0] 43)).heap.size := by have := hS.tc.lt; have := hkA.size; omega
          clear hls
          go_upto_region 14 with fail
          go_upto_region 15 with (at_builtin; go_loud (refine wpList_app rfl (.tmp 103) (.tmp 106) 24 rfl el24 (T + 1) rfl (hS.keep hkA).two.ol rfl [iv 71, .slice none 0 0, iv 72, .slice none 0 0] rfl (Cs.new wv [iv 71, .slice none 0 0, iv 72, .slice none 0 0] 43 (0, 0)) (by simp [Value.oneCell']) (k + 2) rfl (lnc ls (ts.map cutT) ++ marks2) rfl hkb2 hTA ?_); intro xa2 xc2 w8 hb; have hS8 := hS.appl hb; have hm8 := hS8.tc.cell 6 _ rfl; have hf8 := hS8.tc.free 6 _ rfl)
          have hS9 : TwS wb (w8.setCell ⟨T, 6, none⟩ (.slice xa2 (k + 2) xc2)) T (tws nm r0 r1 nilT ⟨xa2, k + 2, xc2⟩ ⟨ta, k, tc⟩) r0 r1 ⟨xa2, k + 2, xc2⟩ ⟨ta, k, tc⟩ ts b0 b1 ls (lnc ls (ts.map cutT) ++ marks2) (ts.map tvv) := hS8.set 6 (by simp [tws]) (.slice xa2 (k + 2) xc2)
          change Code.wp _ _ _ _ (w8.setCell ⟨T, 6, none⟩ (.slice xa2 (k + 2) xc2))
          generalize w8.setCell ⟨T, 6, none⟩ (.slice xa2 (k + 2) xc2) = w9 at *
          have hcap := hS9.two.ol.cap
          have hxc : k ≤ xc2 := by simp only at hcap; omega
          have hx0 : xc2 ≠ 0 := by simp only at hcap; omega
          obtain ⟨gl, _, e, _, _, _⟩ := hS9.two.ol.block (by simp)
          replace e : xa2 = some ⟨gl, 0, none⟩ := e
          subst e
          clear hS8 hm8 hf8 hb hS hm6 hkA hTA hkb2 hcap c3
          have hm6 : w9.cell? ⟨T, 6, none⟩ = some (.slice (some ⟨gl, 0, none⟩) (k + 2) xc2) := hS9.tc.cell 6 _ rfl
          have hm3 := hS9.tc.cell 3 _ rfl
          have hf3 := hS9.tc.free 3 _ rfl
          have HS10 := Lib.hid (show TwS wb (w9.setCell ⟨T, 3, none⟩ (.slice (some ⟨gl, 0, none⟩) k xc2)) T (tws nm r0 r1 ⟨some ⟨gl, 0, none⟩, k, xc2⟩ ⟨some ⟨gl, 0, none⟩, k + 2, xc2⟩ ⟨ta, k, tc⟩) r0 r1 ⟨some ⟨gl, 0, none⟩, k + 2, xc2⟩ ⟨ta, k, tc⟩ ts b0 b1 ls (lnc ls (ts.map cutT) ++ marks2) (ts.map tvv) from hS9.set 3 (by simp [tws]) (.slice (some ⟨gl, 0, none⟩) k xc2))
          clear hS9
          go_wp2_with fail
          go_ret
          refine ⟨T, r0, r1, ⟨some ⟨gl, 0, none⟩, k + 2, xc2⟩, ⟨ta, k, tc⟩, ts, rfl, Kp.trans Hkb.out HS10.out.kp, by have := Hbx.out; omega, ?_, HS10.out.two⟩
          rw [hlen]
          exact HS10.out.tc
end Go.Proofs.YtjbjgpcldcpjmaaDoor
