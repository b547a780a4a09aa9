/- The document's table, as patterns. No condition. -/
import Derived.Test.YtbcjeemjpcidhaaDoorPa1
import Derived.Test.YtbcjeemjpcidhaaDoorPa3
import Derived.Test.YtbcjeemjpcidhaaDoorPa2
namespace Go.Proofs.YtbcjeemjpcidhaaDoor
open Go.RowKit

theorem row_ok {k : Nat} {r : ByteArray} (h : rowsL[k]? = some r) : r.size ≤ 1000 ∧ (splitL r 124).length = 4 ∧ (partL r 1).size ≤ 1000 ∧ (partL r 2).size ≤ 1000 ∧ (partL r 3).size ≤ 1000 ∧ (∀ x ∈ splitL (partL r 3) 59, x.size ≤ 1000) ∧ (splitL (partL r 3) 59).length ≤ 1000 := by
  have hm := List.all_eq_true.1 rows_ok r (List.mem_of_getElem? h)
  simp only [rowOk, Bool.and_eq_true, decide_eq_true_eq, beq_iff_eq, List.all_eq_true] at hm
  obtain ⟨⟨⟨⟨⟨⟨h1, h2⟩, h3⟩, h4⟩, h5⟩, h6⟩, h7⟩ := hm
  exact ⟨h2, h1, h3, h4, h5, h6, h7⟩

/-- The variable that a row's pattern is made in. -/
def At4 (w : World) (b : Nat) (nm : ByteArray) (t0 t1 tl : Tv) : Prop :=
  (w.cell? ⟨b, 0, none⟩ = some (.string nm) ∧ w.cell? ⟨b, 1, none⟩ = some (tvv t0) ∧ w.cell? ⟨b, 2, none⟩ = some (tvv t1) ∧ w.cell? ⟨b, 3, none⟩ = some (tvv tl)) ∧ w.frozen? ⟨b, 1, none⟩ = false ∧ w.frozen? ⟨b, 2, none⟩ = false ∧ w.frozen? ⟨b, 3, none⟩ = false
theorem At4.new (w : World) (nm : ByteArray) : At4 (w.alloc (.cells #[.string nm, .slice none 0 0, .slice none 0 0, .slice none 0 0] 29)) w.heap.size nm ⟨none, 0, 0⟩ ⟨none, 0, 0⟩ ⟨none, 0, 0⟩ := by
  refine ⟨⟨?_, ?_, ?_, ?_⟩, ?_, ?_, ?_⟩
  · rw [World.cell?_alloc_at _ _ _ _ rfl]; rfl
  · rw [World.cell?_alloc_at _ _ _ _ rfl]; rfl
  · rw [World.cell?_alloc_at _ _ _ _ rfl]; rfl
  · rw [World.cell?_alloc_at _ _ _ _ rfl]; rfl
  · exact World.frozen?_alloc_at _ _ _ _ rfl
  · exact World.frozen?_alloc_at _ _ _ _ rfl
  · exact World.frozen?_alloc_at _ _ _ _ rfl
theorem At4.fr {X : List Nat} {w w' : World} {b : Nat} {nm : ByteArray} {t0 t1 tl : Tv} (h : At4 w b nm t0 t1 tl) (k : Fr X w w') (hb : b ∉ X) : At4 w' b nm t0 t1 tl := by
  obtain ⟨⟨h0, h1, h2, h3⟩, f1, f2, f3⟩ := h
  exact ⟨⟨k.cell h0 hb, k.cell h1 hb, k.cell h2 hb, k.cell h3 hb⟩, k.free h1 f1 hb, k.free h2 f2 hb, k.free h3 f3 hb⟩
theorem At4.kp {w w' : World} {b : Nat} {nm : ByteArray} {t0 t1 tl : Tv} (h : At4 w b nm t0 t1 tl) (k : Kp w w') : At4 w' b nm t0 t1 tl := h.fr (Fr.of_kp k) (by simp)
theorem At4.set1 {w : World} {b : Nat} {nm : ByteArray} {t0 t1 tl : Tv} (h : At4 w b nm t0 t1 tl) (t : Tv) : At4 (w.setCell ⟨b, 1, none⟩ (tvv t)) b nm t t1 tl := by
  obtain ⟨⟨h0, h1, h2, h3⟩, f1, f2, f3⟩ := h
  refine ⟨⟨?_, World.cell?_setCell_same _ _ _ h1, ?_, ?_⟩, ?_, ?_, ?_⟩
  · rw [World.cell?_setCell_other _ _ _ _ (by simp)]; exact h0
  · rw [World.cell?_setCell_other _ _ _ _ (by simp)]; exact h2
  · rw [World.cell?_setCell_other _ _ _ _ (by simp)]; exact h3
  · rw [World.frozen?_setCell]; exact f1
  · rw [World.frozen?_setCell]; exact f2
  · rw [World.frozen?_setCell]; exact f3
theorem At4.set2 {w : World} {b : Nat} {nm : ByteArray} {t0 t1 tl : Tv} (h : At4 w b nm t0 t1 tl) (t : Tv) : At4 (w.setCell ⟨b, 2, none⟩ (tvv t)) b nm t0 t tl := by
  obtain ⟨⟨h0, h1, h2, h3⟩, f1, f2, f3⟩ := h
  refine ⟨⟨?_, ?_, World.cell?_setCell_same _ _ _ h2, ?_⟩, ?_, ?_, ?_⟩
  · rw [World.cell?_setCell_other _ _ _ _ (by simp)]; exact h0
  · rw [World.cell?_setCell_other _ _ _ _ (by simp)]; exact h1
  · rw [World.cell?_setCell_other _ _ _ _ (by simp)]; exact h3
  · rw [World.frozen?_setCell]; exact f1
  · rw [World.frozen?_setCell]; exact f2
  · rw [World.frozen?_setCell]; exact f3
theorem At4.set3 {w : World} {b : Nat} {nm : ByteArray} {t0 t1 tl : Tv} (h : At4 w b nm t0 t1 tl) (t : Tv) : At4 (w.setCell ⟨b, 3, none⟩ (tvv t)) b nm t0 t1 t := by
  obtain ⟨⟨h0, h1, h2, h3⟩, f1, f2, f3⟩ := h
  refine ⟨⟨?_, ?_, ?_, World.cell?_setCell_same _ _ _ h3⟩, ?_, ?_, ?_⟩
  · rw [World.cell?_setCell_other _ _ _ _ (by simp)]; exact h0
  · rw [World.cell?_setCell_other _ _ _ _ (by simp)]; exact h1
  · rw [World.cell?_setCell_other _ _ _ _ (by simp)]; exact h2
  · rw [World.frozen?_setCell]; exact f1
  · rw [World.frozen?_setCell]; exact f2
  · rw [World.frozen?_setCell]; exact f3
theorem row_step {r : ByteArray} {pcs : List ByteArray} (h : rowLs r = lineL pcs 0) (j : Nat) (hj : j < pcs.length) : (rowLs r).take (j + 1) = (rowLs r).take j ++ [(((j % 2 : Nat) : Int), tokL pcs[j])] := by
  have hl : j < (rowLs r).length := by rw [h]; unfold lineL; rw [List.length_mapIdx]; exact hj
  rw [take_step _ _ hl]
  congr 2
  have : ∀ (l : List Ln) (e : rowLs r = l) (h' : j < l.length), (rowLs r)[j] = l[j] := fun l e h' => by subst e; rfl
  rw [this _ h (by rw [← h]; exact hl)]
  unfold lineL
  rw [List.getElem_mapIdx, Nat.zero_add]
/-- What one more message leaves. -/
theorem all_fin {w8 wr wq wc wz w9 : World} {bp : Nat} {nm : ByteArray} {T0 T1 : Tv} {al ao2 tt : Option Addr} {FF : List Nat} {nl cl cap2 mt dt : Nat} {ls : List Ln} {l : Ln} (hl1 : ls.length = nl) (ts : List Tv) (hl2 : ts.length = ls.length) (hl3 : Own wr w8.heap.size 60 2 al nl cl (lnc ls ts))
    (hl4 : ∀ (j : Nat) (h : j < ls.length) (h' : j < ts.length), ts[j].n ≤ 7007 ∧ Sta wr (blkL al ++ (bp :: FF)) (fun w => Is w ts[j].ao ts[j].n ls[j].2)) (hk : Kp wr wz) (hP : At4 wr bp nm T0 T1 ⟨al, nl, cl⟩) (hF : Fr [bp] w8 wr) (hbp : bp < w8.heap.size)
    (hbt : ∀ i ∈ blkL tt, wq.heap.size ≤ i ∧ i < wc.heap.size) (hq : wr.heap.size ≤ wq.heap.size) (_hq2 : wq.heap.size ≤ wz.heap.size) (hq3 : wc.heap.size ≤ wz.heap.size) (hT : Is wz tt mt l.2) (hmt : mt ≤ 7007) (hFb : ∀ j ∈ FF, j < bp)
    (ha : Appd wz w9 w8.heap.size 60 2 al cl 1 (nl + 1) (lnc (ls ++ [l]) (ts ++ [⟨tt, mt, dt⟩])) ao2 cap2) :
    At4 (w9.setCell ⟨bp, 3, none⟩ (.slice ao2 (nl + 1) cap2)) bp nm T0 T1 ⟨ao2, nl + 1, cap2⟩ ∧ LnO (w9.setCell ⟨bp, 3, none⟩ (.slice ao2 (nl + 1) cap2)) w8.heap.size (bp :: FF) ao2 (nl + 1) cap2 (ls ++ [l]) ∧ Fr [bp] w8 (w9.setCell ⟨bp, 3, none⟩ (.slice ao2 (nl + 1) cap2)) := by
  have hal : ∀ i ∈ blkL al, w8.heap.size ≤ i ∧ i < wr.heap.size := fun i hi => hl3.lt i (mem_blkL.1 hi)
  have hbal : bp ∉ blkL al := fun h => by have := (hal bp h).1; omega
  have hs8 := hF.size
  have hL9 : LnO w9 w8.heap.size (bp :: FF) ao2 (nl + 1) cap2 (ls ++ [l]) := LnO.app (a := wr) (w := wz) ⟨hl1, ts, hl2, hl3, hl4⟩ ts hl2 hl4 hk l ⟨tt, mt, dt⟩ hT hmt (fun i hi => by
    obtain ⟨q1, q2⟩ := hbt i hi
    refine ⟨by omega, fun hm => ?_⟩
    rcases List.mem_append.1 hm with q | q
    · have := (hal i q).2; omega
    · rcases List.mem_cons.1 q with q | q
      · omega
      · have := hFb i q; omega) rfl ha
  have hset := Fr.set w9 ⟨bp, 3, none⟩ (.slice ao2 (nl + 1) cap2)
  refine ⟨((hP.kp hk).fr ha.fr hbal).set3 ⟨ao2, nl + 1, cap2⟩, hL9.keep hset (fun i hi => .inl (by simp at hi; simp [hi])) (fun i hi hm => ?_), ?_⟩
  · have := (ha.own.lt i (mem_blkL.1 hm)).1
    simp at hi; omega
  · exact ((hF.trans ((Fr.of_kp hk).mono (by simp))).step ha.fr (fun i hi => .inr (hal i hi).1)).trans hset
theorem PvO.mono {w : World} {B B' : Nat} {X : List Nat} {ao : Option Addr} {n cap k : Nat} (h : PvO w B X ao n cap k) (hb : B' ≤ B) : PvO w B' X ao n cap k := by
  obtain ⟨h1, ps, h2, h3, h4⟩ := h
  exact ⟨h1, ps, h2, h3.mono (fun i hi => Nat.le_trans hb (h3.lt i hi).1), h4⟩
def AllPost (w : World) (X : List Nat) (e : Ending) (w' : World) : Prop := Kp w w' ∧ ∃ ao n cap, e = .returned (.slice ao n cap) ∧ PvO w' w.heap.size X ao n cap 38

set_option maxRecDepth 100000 in
set_option maxHeartbeats 4000000 in
theorem all_any (w : World) (X : List Nat) (hX : ∀ j ∈ X, j < w.heap.size) : Calls Tryd.prog 34 #[] w (AllPost w X) := by
  have Hr := Lib.hid (rows_any w)
  go_enter Tryd.func34, Tryd.ntmps34
  go_wp2_with fail
  (with_reducible refine Hr.out.mono ?_)
  rintro e w1 ⟨hk1, rb, rfl, hS⟩
  have hw1 := hk1.size
  go_wp2_with fail
  go_loopw [1, 3] (fun l i wr => ∃ k n cap ao, k ≤ 38 ∧ i = .int .i64 (k : Nat) ∧ l = .slice ao n cap ∧ PvO wr w1.heap.size X ao n cap k ∧ Kp w1 wr) (fun _ i _ => 38 - (intOf i).toNat)
  case atStart => exact ⟨0, 0, 0, none, by omega, rfl, rfl, PvO.nil _ _ _, Kp.refl _⟩
  case round =>
    obtain ⟨k, n, cap, ao, hk, rfl, rfl, hO, hkk⟩ := hrel
    by_cases hlt : k < 38
    · rename World => wo
      obtain ⟨hnk, ps, hpl, hown, hps⟩ := hO
      replace hnk := hnk.symm
      subst hnk
      obtain ⟨b, off, hbo, hcc⟩ := hS.at k hlt
      have hck := hkk.cell (hcc k hlt)
      have hrk : rowsL[k]? = some (rowsL[k]'(by rw [rowsL_length]; exact hlt)) := List.getElem?_eq_getElem _
      cases hbo
      rw [Nat.zero_add] at hck
      generalize rowsL[k]'(by rw [rowsL_length]; exact hlt) = r at hck hrk
      obtain ⟨r1, r2, r3, r4, r5, r6, r7⟩ := row_ok hrk
      have Hsp := Lib.hid (show Calls Tryd.prog 45 #[.string r, .int .u8 124] wo (SplitPost wo (splitL r 124)) from split_any wo r 124 r1)
      clear hcc
      have Hps := Lib.hid hps; clear hps
      have Hrk := Lib.hid hrk; clear hrk
      have Hr6 := Lib.hid r6; clear r6
      go_wp2_with fail
      (with_reducible refine Hsp.out.mono ?_)
      rintro e w2 ⟨hk2, xo, xm, xc, rfl, hX, _⟩
      have hxm : xm = 4 := by rw [← hX.1, r2]
      subst hxm
      obtain ⟨xb, xoff, rfl, hxc⟩ := hX.at 0 (by omega)
      have hpart : ∀ j (h : j < 4), (splitL r 124)[j]'(by omega) = partL r j := fun j h => by unfold partL; rw [List.getD, List.getElem?_eq_getElem (by omega)]; rfl
      have x0 := hxc 0 (by omega)
      have x1 := hxc 1 (by omega)
      have x2 := hxc 2 (by omega)
      have x3 := hxc 3 (by omega)
      rw [hpart 0 (by omega), Nat.add_zero] at x0
      rw [hpart 1 (by omega)] at x1
      rw [hpart 2 (by omega)] at x2
      rw [hpart 3 (by omega)] at x3
      have hxb : xb < w2.heap.size := World.block_lt_of_cell? w2 _ x0
      clear hxc hX hpart hck r1 r2
      go_upto_region 8 with fail
      generalize hw3 : w2.alloc (.cells #[.string (partL r 0), .slice none 0 0, .slice none 0 0, .slice none 0 0] 29) = w3
      have hk3 : Kp w2 w3 := hw3 ▸ Kp.new _ _
      obtain ⟨bp, hbp⟩ : ∃ bp, bp = w2.heap.size := ⟨_, rfl⟩
      have hP : At4 w3 bp (partL r 0) ⟨none, 0, 0⟩ ⟨none, 0, 0⟩ ⟨none, 0, 0⟩ := by rw [hbp]; exact hw3 ▸ At4.new w2 _
      rw [← hbp]
      have hFb : ∀ j ∈ blkL ao ++ X, j < bp := fun j hj => by
        have := hk2.size
        rcases List.mem_append.1 hj with hj | hj
        · have := (hown.lt j (mem_blkL.1 hj)).2; omega
        · have := hX j hj; have := hkk.size; omega
      have hbo : wo.heap.size ≤ bp := by have := hk2.size; omega
      have hbp3 : bp < w3.heap.size := World.block_lt_of_cell? w3 _ hP.1.1
      have hxn : xb ≠ bp := by omega
      clear hbp hw3
      replace x1 := hk3.cell x1
      replace x2 := hk3.cell x2
      replace x3 := hk3.cell x3
      have Ht1 := Lib.hid (tokens_any w3 (partL r 1) r3)
      clear x0
      go_wp2_with fail
      (with_reducible refine Ht1.out.mono ?_)
      rintro e w4 ⟨hk4, t0, m0, d0, rfl, hT0, hm0, hd0, hb0⟩
      replace hP := hP.kp hk4
      obtain ⟨⟨e0, e1, e2, e3⟩, f1, f2, f3⟩ := hP
      go_upto_region 9 with fail
      generalize hw5 : w4.setCell ⟨bp, 1, none⟩ (.slice t0 m0 d0) = w5
      have hF5 : Fr [bp] w4 w5 := hw5 ▸ Fr.set w4 ⟨bp, 1, none⟩ _
      have hP : At4 w5 bp (partL r 0) ⟨t0, m0, d0⟩ ⟨none, 0, 0⟩ ⟨none, 0, 0⟩ := hw5 ▸ At4.set1 ⟨⟨e0, e1, e2, e3⟩, f1, f2, f3⟩ ⟨t0, m0, d0⟩
      clear hw5 e0 e1 e2 e3 f1 f2 f3
      have S0 : Sta w5 (bp :: (blkL ao ++ X)) (fun w => Is w t0 m0 (tokL (partL r 1))) := (Sta.new (X := bp :: (blkL ao ++ X)) hT0 (fun j hj hj2 => by
        have := hb0 j hj
        rcases List.mem_cons.1 hj2 with q | q
        · omega
        · have := hFb j q; omega)).step hF5 (fun j hj => .inl (by simp at hj; simp [hj])) (fun j hj => .inl hj)
      replace x2 := hF5.cell (hk4.cell x2) (by simpa using hxn)
      replace x3 := hF5.cell (hk4.cell x3) (by simpa using hxn)
      have hs35 : w3.heap.size ≤ w5.heap.size := Nat.le_trans hk4.size hF5.size
      have hF35 : Fr [bp] w3 w5 := ((Fr.of_kp hk4).mono (by simp)).trans hF5
      have Ht2 := Lib.hid (tokens_any w5 (partL r 2) r4)
      clear Ht1 hT0 hb0 x1
      go_wp2_with fail
      (with_reducible refine Ht2.out.mono ?_)
      rintro e w6 ⟨hk6, t1, m1, d1, rfl, hT1, hm1, hd1, hb1⟩
      replace hP := hP.kp hk6
      obtain ⟨⟨e0, e1, e2, e3⟩, f1, f2, f3⟩ := hP
      go_upto_region 10 with fail
      generalize hw7 : w6.setCell ⟨bp, 2, none⟩ (.slice t1 m1 d1) = w7
      have hF7 : Fr [bp] w6 w7 := hw7 ▸ Fr.set w6 ⟨bp, 2, none⟩ _
      have hP : At4 w7 bp (partL r 0) ⟨t0, m0, d0⟩ ⟨t1, m1, d1⟩ ⟨none, 0, 0⟩ := hw7 ▸ At4.set2 ⟨⟨e0, e1, e2, e3⟩, f1, f2, f3⟩ ⟨t1, m1, d1⟩
      clear hw7 e0 e1 e2 e3 f1 f2 f3
      have S1 : Sta w7 (bp :: (blkL ao ++ X)) (fun w => Is w t1 m1 (tokL (partL r 2))) := (Sta.new (X := bp :: (blkL ao ++ X)) hT1 (fun j hj hj2 => by
        have := hb1 j hj
        rcases List.mem_cons.1 hj2 with q | q
        · omega
        · have := hFb j q; omega)).step hF7 (fun j hj => .inl (by simp at hj; simp [hj])) (fun j hj => .inl hj)
      replace S0 := (S0.kp hk6).step hF7 (Z := bp :: (blkL ao ++ X)) (fun j hj => .inl (by simp at hj; simp [hj])) (fun j hj => .inl hj)
      replace x3 := hF7.cell (hk6.cell x3) (by simpa using hxn)
      have hF37 : Fr [bp] w3 w7 := hF35.trans (((Fr.of_kp hk6).mono (by simp)).trans hF7)
      have hs37 : w3.heap.size ≤ w7.heap.size := Nat.le_trans hs35 (Nat.le_trans hk6.size hF7.size)
      have Ht3 := Lib.hid (show Calls Tryd.prog 45 #[.string (partL r 3), .int .u8 59] w7 (SplitPost w7 (splitL (partL r 3) 59)) from split_any w7 (partL r 3) 59 r5)
      clear Ht2 hT1 hb1 x2
      go_wp2_with fail
      (with_reducible refine Ht3.out.mono ?_)
      rintro e w8 ⟨hk8, yo, M, yc, rfl, hY, hyb⟩
      replace hP := hP.kp hk8
      replace S0 := S0.kp hk8
      replace S1 := S1.kp hk8
      have hM : M ≤ 1000 := by rw [← hY.1]; exact r7
      have hF38 : Fr [bp] w3 w8 := hF37.trans ((Fr.of_kp hk8).mono (by simp))
      have hs38 : w3.heap.size ≤ w8.heap.size := Nat.le_trans hs37 hk8.size
      have hyn : ∀ j ∈ blkL yo, j ≠ bp := fun j hj => by have := hyb j hj; omega
      obtain ⟨pcs, hpcs⟩ : ∃ pcs, pcs = splitL (partL r 3) 59 := ⟨_, rfl⟩
      rw [← hpcs] at hY Hr6
      have Hls := Lib.hid (show rowLs r = lineL pcs 0 by rw [hpcs]; rfl)
      clear hpcs Ht3 x3 hyb r3 r4 r5 r7
      go_wp2_with fail
      have Hd := Lib.hid (And.intro hk2 (And.intro hk3 hF38))
      have HS := Lib.hid (And.intro S0 S1)
      clear hF5 hk4 hF35 hk6 hF7 hF37 hk8 hs35 hs37 S0 S1 Hsp hF38
      go_loopw [7] (fun i wi => ∃ (j nl cl : Nat) (al : Option Addr), j ≤ M ∧ i = .int .i64 (j : Nat) ∧ At4 wi bp (partL r 0) ⟨t0, m0, d0⟩ ⟨t1, m1, d1⟩ ⟨al, nl, cl⟩ ∧ LnO wi w8.heap.size (bp :: (blkL ao ++ X)) al nl cl ((rowLs r).take j) ∧ Fr [bp] w8 wi) (fun i _ => M - (intOf i).toNat)
      case atStart => exact ⟨0, 0, 0, none, by omega, rfl, hP, LnO.nil _ _ _, Fr.refl _ _⟩
      case round =>
        obtain ⟨j, nl, cl, al, hj, rfl, hP, hL, hF⟩ := hrel
        by_cases hjM : j < M
        · obtain ⟨yb, yoff, rfl, hyc⟩ := hY.at j hjM
          have hlj : j < pcs.length := by rw [hY.1]; exact hjM
          have hyj := hF.cell (hyc j hjM) (by have := hyn yb (by simp [blkL, blk]); simpa using this)
          have hxs := Hr6.out (pcs[j]'hlj) (List.getElem_mem _)
          have hst := row_step Hls.out j hlj
          clear hyc
          generalize pcs[j]'hlj = x at hyj hxs hst
          have Hst := Lib.hid hst; clear hst
          obtain ⟨⟨e0, e1, e2, e3⟩, f1, f2, f3⟩ := hP
          obtain ⟨hl1, ts, hl2, hl3, hl4⟩ := hL
          have hnl : nl ≤ 1000 := by rw [← hl1, List.length_take]; omega
          have hbal : bp ∉ blkL al := fun h => by have := (hl3.lt bp (mem_blkL.1 h)).1; omega
          have HP := Lib.hid (show At4 wr bp (partL r 0) ⟨t0, m0, d0⟩ ⟨t1, m1, d1⟩ ⟨al, nl, cl⟩ from ⟨⟨e0, e1, e2, e3⟩, f1, f2, f3⟩)
          clear e0 e1 e2 f1 f2
          go_upto_region 14 with fail
          refine any_start (by kernel_rfl) ?_
          refine any_take [0, 2, 3, 4, 5, 6] (by kernel_rfl) ?_
          simp only [opsAt, List.getElem?_toArray, List.getElem?_cons_zero, List.getElem?_cons_succ]
          repeat (go_big_quiet_step (fail))
          refine wpQuiet_nil ?_
          generalize hwq : wr.drew = wq
          have hkq : Kp wr wq := hwq ▸ Kp.of_drewN wr 1
          replace e3 : wq.cell? ⟨bp, 3, none⟩ = some (.slice al nl cl) := hkq.cell e3
          have e3q := e3
          replace f3 := (HP.out.kp hkq).2.2.2
          have hyq := hkq.cell hyj
          have Htk := Lib.hid (tokens_any wq x hxs)
          clear hwq hyj
          refine any_two 1 7 (by kernel_rfl) ?_ ?_
          · simp only [opsAt, List.getElem?_toArray, List.getElem?_cons_zero, List.getElem?_cons_succ]
            go_wp2_with fail
            refine any_one 7 (by kernel_rfl) ?_
            simp only [opsAt, List.getElem?_toArray, List.getElem?_cons_zero, List.getElem?_cons_succ]
            go_wp2_with fail
            refine any_one 8 (by kernel_rfl) ?_
            simp only [opsAt, List.getElem?_toArray, List.getElem?_cons_zero, List.getElem?_cons_succ]
            go_wp2_with (go_at_call 46; go_loud (refine Htk.out.mono ?_); rintro e wc ⟨hkc, tt, mt, dt, rfl, hT, hmt, hdt, hbt⟩; have e3 := Kp.cell hkc e3; have f3 := Kp.frz hkc e3q f3; have e3c := e3)
            refine any_take [9] (by kernel_rfl) ?_
            simp only [opsAt, List.getElem?_toArray, List.getElem?_cons_zero, List.getElem?_cons_succ]
            repeat (go_big_quiet_step (fail))
            refine wpQuiet_nil ?_
            refine any_one 10 (by kernel_rfl) ?_
            simp only [opsAt, List.getElem?_toArray, List.getElem?_cons_zero, List.getElem?_cons_succ]
            go_wp2_with fail
            have hcs : Cs (wc.alloc (.cells #[iv ((j : Int) % 2), .slice tt mt dt] 60)) (some ⟨wc.heap.size, 0, none⟩) [iv ((j : Int) % 2), .slice tt mt dt] := Cs.new wc [iv ((j : Int) % 2), .slice tt mt dt] 60 (0, 0)
            have hkz : Kp wc (wc.alloc (.cells #[iv ((j : Int) % 2), .slice tt mt dt] 60)) := Kp.new wc _
            generalize wc.alloc (.cells #[iv ((j : Int) % 2), .slice tt mt dt] 60) = wz at hcs hkz ⊢
            have f3 := Kp.frz hkz e3c f3
            have e3 := Kp.cell hkz e3c
            have e3z := e3
            have hkwz : Kp wr wz := Kp.trans hkq (Kp.trans hkc hkz)
            refine any_one 11 (by kernel_rfl) ?_
            simp only [opsAt, List.getElem?_toArray, List.getElem?_cons_zero, List.getElem?_cons_succ]
            go_wp2_with (at_builtin; refine wpList_app rfl (.tmp 47) (.tmp 56) 27 rfl el24 w8.heap.size rfl (hl3.keep hkwz) rfl [iv ((j : Int) % 2), .slice tt mt dt] rfl hcs (by simp [Value.oneCell']) (nl + 1) rfl (lnc ((rowLs r).take j ++ [(((j % 2 : Nat) : Int), tokL x)]) (ts ++ [⟨tt, mt, dt⟩])) (lnc_append _ _ hl2) (by omega) (Nat.le_trans hF.size hkwz.size) ?_; intro ao2 cap2 w9 ha; have e3 := Fr.cell ha.fr e3 hbal; have f3 := Fr.free ha.fr e3z f3 hbal)
            refine any_take [12] (by kernel_rfl) ?_
            simp only [opsAt, List.getElem?_toArray, List.getElem?_cons_zero, List.getElem?_cons_succ]
            repeat (go_big_quiet_step (fail))
            refine wpQuiet_nil ?_
            refine any_one 13 (by kernel_rfl) ?_
            simp only [opsAt, List.getElem?_toArray, List.getElem?_cons_zero, List.getElem?_cons_succ]
            go_wp2_with fail
            refine any_end (by kernel_rfl) ?_
            have Hfin := Lib.hid (all_fin hl1 ts hl2 hl3 hl4 hkwz HP.out hF (by omega) (fun i hi => (hbt i hi)) hkq.size (hkc.trans hkz).size hkz.size (hkz.is hT) hmt hFb ha)
            go_wp2_with fail
            go_roundw
            case rel => exact ⟨j + 1, nl + 1, cap2, ao2, by omega, by go_num, Hfin.out.1, by rw [Hst.out]; exact Hfin.out.2.1, Hfin.out.2.2⟩
            case measure => simp [intOf]; omega
          · simp only [opsAt, List.getElem?_toArray, List.getElem?_cons_zero, List.getElem?_cons_succ]
            go_wp2_with fail
            refine any_two 1 8 (by kernel_rfl) ?_ ?_
            · simp only [opsAt, List.getElem?_toArray, List.getElem?_cons_zero, List.getElem?_cons_succ]
              go_wp2_with fail
              refine any_one 8 (by kernel_rfl) ?_
              simp only [opsAt, List.getElem?_toArray, List.getElem?_cons_zero, List.getElem?_cons_succ]
              go_wp2_with (go_at_call 46; go_loud (refine Htk.out.mono ?_); rintro e wc ⟨hkc, tt, mt, dt, rfl, hT, hmt, hdt, hbt⟩; have e3 := Kp.cell hkc e3; have f3 := Kp.frz hkc e3q f3; have e3c := e3)
              refine any_take [9] (by kernel_rfl) ?_
              simp only [opsAt, List.getElem?_toArray, List.getElem?_cons_zero, List.getElem?_cons_succ]
              repeat (go_big_quiet_step (fail))
              refine wpQuiet_nil ?_
              refine any_one 10 (by kernel_rfl) ?_
              simp only [opsAt, List.getElem?_toArray, List.getElem?_cons_zero, List.getElem?_cons_succ]
              go_wp2_with fail
              have hcs : Cs (wc.alloc (.cells #[iv ((j : Int) % 2), .slice tt mt dt] 60)) (some ⟨wc.heap.size, 0, none⟩) [iv ((j : Int) % 2), .slice tt mt dt] := Cs.new wc [iv ((j : Int) % 2), .slice tt mt dt] 60 (0, 0)
              have hkz : Kp wc (wc.alloc (.cells #[iv ((j : Int) % 2), .slice tt mt dt] 60)) := Kp.new wc _
              generalize wc.alloc (.cells #[iv ((j : Int) % 2), .slice tt mt dt] 60) = wz at hcs hkz ⊢
              have f3 := Kp.frz hkz e3c f3
              have e3 := Kp.cell hkz e3c
              have e3z := e3
              have hkwz : Kp wr wz := Kp.trans hkq (Kp.trans hkc hkz)
              refine any_one 11 (by kernel_rfl) ?_
              simp only [opsAt, List.getElem?_toArray, List.getElem?_cons_zero, List.getElem?_cons_succ]
              go_wp2_with (at_builtin; refine wpList_app rfl (.tmp 47) (.tmp 56) 27 rfl el24 w8.heap.size rfl (hl3.keep hkwz) rfl [iv ((j : Int) % 2), .slice tt mt dt] rfl hcs (by simp [Value.oneCell']) (nl + 1) rfl (lnc ((rowLs r).take j ++ [(((j % 2 : Nat) : Int), tokL x)]) (ts ++ [⟨tt, mt, dt⟩])) (lnc_append _ _ hl2) (by omega) (Nat.le_trans hF.size hkwz.size) ?_; intro ao2 cap2 w9 ha; have e3 := Fr.cell ha.fr e3 hbal; have f3 := Fr.free ha.fr e3z f3 hbal)
              refine any_take [12] (by kernel_rfl) ?_
              simp only [opsAt, List.getElem?_toArray, List.getElem?_cons_zero, List.getElem?_cons_succ]
              repeat (go_big_quiet_step (fail))
              refine wpQuiet_nil ?_
              refine any_one 13 (by kernel_rfl) ?_
              simp only [opsAt, List.getElem?_toArray, List.getElem?_cons_zero, List.getElem?_cons_succ]
              go_wp2_with fail
              refine any_end (by kernel_rfl) ?_
              have Hfin := Lib.hid (all_fin hl1 ts hl2 hl3 hl4 hkwz HP.out hF (by omega) (fun i hi => (hbt i hi)) hkq.size (hkc.trans hkz).size hkz.size (hkz.is hT) hmt hFb ha)
              go_wp2_with fail
              go_roundw
              case rel => exact ⟨j + 1, nl + 1, cap2, ao2, by omega, by go_num, Hfin.out.1, by rw [Hst.out]; exact Hfin.out.2.1, Hfin.out.2.2⟩
              case measure => simp [intOf]; omega
            · simp only [opsAt, List.getElem?_toArray, List.getElem?_cons_zero, List.getElem?_cons_succ]
              go_wp2_with (go_at_call 46; go_loud (refine Htk.out.mono ?_); rintro e wc ⟨hkc, tt, mt, dt, rfl, hT, hmt, hdt, hbt⟩; have e3 := Kp.cell hkc e3; have f3 := Kp.frz hkc e3q f3; have e3c := e3)
              refine any_take [9] (by kernel_rfl) ?_
              simp only [opsAt, List.getElem?_toArray, List.getElem?_cons_zero, List.getElem?_cons_succ]
              repeat (go_big_quiet_step (fail))
              refine wpQuiet_nil ?_
              refine any_two 1 10 (by kernel_rfl) ?_ ?_
              · simp only [opsAt, List.getElem?_toArray, List.getElem?_cons_zero, List.getElem?_cons_succ]
                go_wp2_with fail
                refine any_one 10 (by kernel_rfl) ?_
                simp only [opsAt, List.getElem?_toArray, List.getElem?_cons_zero, List.getElem?_cons_succ]
                go_wp2_with fail
                have hcs : Cs (wc.alloc (.cells #[iv ((j : Int) % 2), .slice tt mt dt] 60)) (some ⟨wc.heap.size, 0, none⟩) [iv ((j : Int) % 2), .slice tt mt dt] := Cs.new wc [iv ((j : Int) % 2), .slice tt mt dt] 60 (0, 0)
                have hkz : Kp wc (wc.alloc (.cells #[iv ((j : Int) % 2), .slice tt mt dt] 60)) := Kp.new wc _
                generalize wc.alloc (.cells #[iv ((j : Int) % 2), .slice tt mt dt] 60) = wz at hcs hkz ⊢
                have f3 := Kp.frz hkz e3c f3
                have e3 := Kp.cell hkz e3c
                have e3z := e3
                have hkwz : Kp wr wz := Kp.trans hkq (Kp.trans hkc hkz)
                refine any_one 11 (by kernel_rfl) ?_
                simp only [opsAt, List.getElem?_toArray, List.getElem?_cons_zero, List.getElem?_cons_succ]
                go_wp2_with (at_builtin; refine wpList_app rfl (.tmp 47) (.tmp 56) 27 rfl el24 w8.heap.size rfl (hl3.keep hkwz) rfl [iv ((j : Int) % 2), .slice tt mt dt] rfl hcs (by simp [Value.oneCell']) (nl + 1) rfl (lnc ((rowLs r).take j ++ [(((j % 2 : Nat) : Int), tokL x)]) (ts ++ [⟨tt, mt, dt⟩])) (lnc_append _ _ hl2) (by omega) (Nat.le_trans hF.size hkwz.size) ?_; intro ao2 cap2 w9 ha; have e3 := Fr.cell ha.fr e3 hbal; have f3 := Fr.free ha.fr e3z f3 hbal)
                refine any_take [12] (by kernel_rfl) ?_
                simp only [opsAt, List.getElem?_toArray, List.getElem?_cons_zero, List.getElem?_cons_succ]
                repeat (go_big_quiet_step (fail))
                refine wpQuiet_nil ?_
                refine any_one 13 (by kernel_rfl) ?_
                simp only [opsAt, List.getElem?_toArray, List.getElem?_cons_zero, List.getElem?_cons_succ]
                go_wp2_with fail
                refine any_end (by kernel_rfl) ?_
                have Hfin := Lib.hid (all_fin hl1 ts hl2 hl3 hl4 hkwz HP.out hF (by omega) (fun i hi => (hbt i hi)) hkq.size (hkc.trans hkz).size hkz.size (hkz.is hT) hmt hFb ha)
                go_wp2_with fail
                go_roundw
                case rel => exact ⟨j + 1, nl + 1, cap2, ao2, by omega, by go_num, Hfin.out.1, by rw [Hst.out]; exact Hfin.out.2.1, Hfin.out.2.2⟩
                case measure => simp [intOf]; omega
              · simp only [opsAt, List.getElem?_toArray, List.getElem?_cons_zero, List.getElem?_cons_succ]
                go_wp2_with fail
                have hcs : Cs (wc.alloc (.cells #[iv ((j : Int) % 2), .slice tt mt dt] 60)) (some ⟨wc.heap.size, 0, none⟩) [iv ((j : Int) % 2), .slice tt mt dt] := Cs.new wc [iv ((j : Int) % 2), .slice tt mt dt] 60 (0, 0)
                have hkz : Kp wc (wc.alloc (.cells #[iv ((j : Int) % 2), .slice tt mt dt] 60)) := Kp.new wc _
                generalize wc.alloc (.cells #[iv ((j : Int) % 2), .slice tt mt dt] 60) = wz at hcs hkz ⊢
                have f3 := Kp.frz hkz e3c f3
                have e3 := Kp.cell hkz e3c
                have e3z := e3
                refine any_one 1 (by kernel_rfl) ?_
                simp only [opsAt, List.getElem?_toArray, List.getElem?_cons_zero, List.getElem?_cons_succ]
                go_wp2_with fail
                have hkwz : Kp wr wz := Kp.trans hkq (Kp.trans hkc hkz)
                refine any_one 11 (by kernel_rfl) ?_
                simp only [opsAt, List.getElem?_toArray, List.getElem?_cons_zero, List.getElem?_cons_succ]
                go_wp2_with (at_builtin; refine wpList_app rfl (.tmp 47) (.tmp 56) 27 rfl el24 w8.heap.size rfl (hl3.keep hkwz) rfl [iv ((j : Int) % 2), .slice tt mt dt] rfl hcs (by simp [Value.oneCell']) (nl + 1) rfl (lnc ((rowLs r).take j ++ [(((j % 2 : Nat) : Int), tokL x)]) (ts ++ [⟨tt, mt, dt⟩])) (lnc_append _ _ hl2) (by omega) (Nat.le_trans hF.size hkwz.size) ?_; intro ao2 cap2 w9 ha; have e3 := Fr.cell ha.fr e3 hbal; have f3 := Fr.free ha.fr e3z f3 hbal)
                refine any_take [12] (by kernel_rfl) ?_
                simp only [opsAt, List.getElem?_toArray, List.getElem?_cons_zero, List.getElem?_cons_succ]
                repeat (go_big_quiet_step (fail))
                refine wpQuiet_nil ?_
                refine any_one 13 (by kernel_rfl) ?_
                simp only [opsAt, List.getElem?_toArray, List.getElem?_cons_zero, List.getElem?_cons_succ]
                go_wp2_with fail
                refine any_end (by kernel_rfl) ?_
                have Hfin := Lib.hid (all_fin hl1 ts hl2 hl3 hl4 hkwz HP.out hF (by omega) (fun i hi => (hbt i hi)) hkq.size (hkc.trans hkz).size hkz.size (hkz.is hT) hmt hFb ha)
                go_wp2_with fail
                go_roundw
                case rel => exact ⟨j + 1, nl + 1, cap2, ao2, by omega, by go_num, Hfin.out.1, by rw [Hst.out]; exact Hfin.out.2.1, Hfin.out.2.2⟩
                case measure => simp [intOf]; omega
        · obtain rfl : j = M := by omega
          rw [List.take_of_length_le (by rw [Hls.out]; unfold lineL; rw [List.length_mapIdx, hY.1]; exact Nat.le_refl _)] at hL
          have hnl : nl ≤ 1000 := by rw [← hL.1, Hls.out]; unfold lineL; rw [List.length_mapIdx, hY.1]; exact hM
          have hkwr : Kp wo wr := (((Fr.of_kp Hd.out.1).trans (Fr.of_kp Hd.out.2.1)).step (Hd.out.2.2.trans hF) (fun i hi => .inr (by simp at hi; omega))).kp
          have hSL : Sta wr (blkL ao ++ X) (fun w => Lns w al nl (rowLs r)) := hL.sta (by omega) (fun i hi => List.mem_cons_of_mem _ hi) (fun i hi hm => by
            obtain ⟨_, ts, _, hl3, _⟩ := hL
            have := (hl3.lt i (mem_blkL.1 hm)).1
            have := hFb i hi; omega)
          have hS0 := (HS.out.1.step hF (Z := blkL ao ++ X) (fun i hi => .inl (by simp at hi; simp [hi])) (fun i hi => .inl (List.mem_cons_of_mem _ hi)))
          have hS1 := (HS.out.2.step hF (Z := blkL ao ++ X) (fun i hi => .inl (by simp at hi; simp [hi])) (fun i hi => .inl (List.mem_cons_of_mem _ hi)))
          have hpv : Sta wr (blkL ao ++ X) (PvR r ⟨partL r 0, ⟨t0, m0, d0⟩, ⟨t1, m1, d1⟩, ⟨al, nl, cl⟩⟩) := fun w' k => ⟨hm0, hm1, by show nl ≤ 7007; omega, hS0 w' k, hS1 w' k, hSL w' k⟩
          obtain ⟨⟨e0, e1, e2, e3⟩, f1, f2, f3⟩ := hP
          unfold tvv at e1 e2 e3
          simp only at e1 e2 e3
          clear hSL hS0 hS1 HS hL hF Hd
          have hcs : Cs (wr.alloc (.cells #[.string (partL r 0), .slice t0 m0 d0, .slice t1 m1 d1, .slice al nl cl] 29)) (some ⟨wr.heap.size, 0, none⟩) [.string (partL r 0), .slice t0 m0 d0, .slice t1 m1 d1, .slice al nl cl] := Cs.new wr [.string (partL r 0), .slice t0 m0 d0, .slice t1 m1 d1, .slice al nl cl] 29 (0, 0)
          have hown2 : Own (wr.alloc (.cells #[.string (partL r 0), .slice t0 m0 d0, .slice t1 m1 d1, .slice al nl cl] 29)) w1.heap.size 29 4 ao k cap (ps.flatMap pvc) := hown.keep (Kp.trans hkwr (Kp.new _ _))
          have hbase : w1.heap.size ≤ (wr.alloc (.cells #[.string (partL r 0), .slice t0 m0 d0, .slice t1 m1 d1, .slice al nl cl] 29)).heap.size := Nat.le_trans hkk.size (Nat.le_trans hkwr.size (by simp))
          have hzs : (ps ++ [(⟨partL r 0, ⟨t0, m0, d0⟩, ⟨t1, m1, d1⟩, ⟨al, nl, cl⟩⟩ : Pv)]).flatMap pvc = ps.flatMap pvc ++ [.string (partL r 0), .slice t0 m0 d0, .slice t1 m1 d1, .slice al nl cl] := by simp [pvc, tvv]
          have hby : (k + 1) * 88 ≤ 140737488355328 := by omega
          have hone : ∀ u ∈ ([.string (partL r 0), .slice t0 m0 d0, .slice t1 m1 d1, .slice al nl cl] : List Value), u.oneCell' = true := by simp [Value.oneCell']
          go_wp2_with (at_builtin; refine wpList_app rfl (.tmp 59) (.tmp 61) 89 rfl el80 w1.heap.size rfl hown2 rfl [.string (partL r 0), .slice t0 m0 d0, .slice t1 m1 d1, .slice al nl cl] rfl hcs hone (k + 1) rfl ((ps ++ [(⟨partL r 0, ⟨t0, m0, d0⟩, ⟨t1, m1, d1⟩, ⟨al, nl, cl⟩⟩ : Pv)]).flatMap pvc) hzs hby hbase ?_; intro ao2 cap2 w9 ha)
          have Hfin := Lib.hid (show PvO w9 w1.heap.size X ao2 (k + 1) cap2 (k + 1) ∧ Kp w1 w9 from ⟨PvO.app (k := k) ps rfl hpl Hps.out (Kp.trans hkwr (Kp.new _ _)) ⟨partL r 0, ⟨t0, m0, d0⟩, ⟨t1, m1, d1⟩, ⟨al, nl, cl⟩⟩ r Hrk.out rfl (hpv.kp (Kp.new _ _)) rfl ha, ((Fr.of_kp (Kp.trans hkk (Kp.trans hkwr (Kp.new _ _)))).step ha.fr (fun i hi => .inr (hown2.lt i (mem_blkL.1 hi)).1)).kp⟩)
          clear ha
          go_wp2_with fail
          go_roundw
          case rel => exact ⟨k + 1, k + 1, cap2, ao2, by omega, by go_num, rfl, Hfin.out.1, Hfin.out.2⟩
          case measure => simp [intOf]; omega
    · obtain rfl : k = 38 := by omega
      have hpost : AllPost w X (.returned (.slice ao n cap)) wr := ⟨Kp.trans hk1 hkk, ao, n, cap, rfl, hO.mono hw1⟩
      have Hpost := Lib.hid hpost; clear hpost hO
      go_wp2_with fail
      go_ret
      exact Hpost.out
end Go.Proofs.YtbcjeemjpcidhaaDoor
