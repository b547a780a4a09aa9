/- Parts of the walks and plain laws, merged: All, Find, Fnd, NamS, NamT, Wnt, Inn. Each theorem bears its own conditions; no other. -/
import Derived.Test.YtkmejehhdjdlbaaGreatDoorGe1
import Derived.Test.YtkmejehhdjdlbaaGreatDoorGe7
import Derived.Test.YtkmejehhdjdlbaaGreatDoorGe6
import Derived.Test.YtkmejehhdjdlbaaGreatDoorGe4
namespace Go.Proofs.YtkmejehhdjdlbaaGreatDoor
open Go.RowKit

theorem row_ok {k : Nat} {r : ByteArray} (h : rowsL[k]? = some r) : r.size ≤ 1000 ∧ (splitL r 124).length = 4 ∧ (partL r 1).size ≤ 1000 ∧ (partL r 2).size ≤ 1000 ∧ (partL r 3).size ≤ 1000 ∧ (∀ x ∈ splitL (partL r 3) 59, x.size ≤ 1000) ∧ (splitL (partL r 3) 59).length ≤ 1000 := by
  have hm := List.all_eq_true.1 rows_ok r (List.mem_of_getElem? h)
  simp only [rowOk, Bool.and_eq_true, decide_eq_true_eq, beq_iff_eq, List.all_eq_true] at hm
  obtain ⟨⟨⟨⟨⟨⟨h1, h2⟩, h3⟩, h4⟩, h5⟩, h6⟩, h7⟩ := hm
  exact ⟨h2, h1, h3, h4, h5, h6, h7⟩

/-- The variable that a row's pattern is made in. -/
def At4 (w : World) (b : Nat) (nm : ByteArray) (t0 t1 tl : Tv) : Prop :=
  (w.cell? ⟨b, 0, none⟩ = some (.string nm) ∧ w.cell? ⟨b, 1, none⟩ = some (tvv t0) ∧ w.cell? ⟨b, 2, none⟩ = some (tvv t1) ∧ w.cell? ⟨b, 3, none⟩ = some (tvv tl)) ∧ w.frozen? ⟨b, 1, none⟩ = false ∧ w.frozen? ⟨b, 2, none⟩ = false ∧ w.frozen? ⟨b, 3, none⟩ = false
theorem At4.new (w : World) (nm : ByteArray) : At4 (w.alloc (.cells #[.string nm, .slice none 0 0, .slice none 0 0, .slice none 0 0] 26)) w.heap.size nm ⟨none, 0, 0⟩ ⟨none, 0, 0⟩ ⟨none, 0, 0⟩ := by
  refine ⟨⟨?_, ?_, ?_, ?_⟩, ?_, ?_, ?_⟩
  · rw [World.cell?_alloc_at _ _ _ _ rfl]; rfl
  · rw [World.cell?_alloc_at _ _ _ _ rfl]; rfl
  · rw [World.cell?_alloc_at _ _ _ _ rfl]; rfl
  · rw [World.cell?_alloc_at _ _ _ _ rfl]; rfl
  · exact World.frozen?_alloc_at _ _ _ _ rfl
  · exact World.frozen?_alloc_at _ _ _ _ rfl
  · exact World.frozen?_alloc_at _ _ _ _ rfl
theorem At4.fr {X : List Nat} {w w' : World} {b : Nat} {nm : ByteArray} {t0 t1 tl : Tv} (h : At4 w b nm t0 t1 tl) (k : Fr X w w') (hb : b ∉ X) : At4 w' b nm t0 t1 tl := by
  obtain ⟨⟨h0, h1, h2, h3⟩, f1, f2, f3⟩ := h
  exact ⟨⟨k.cell h0 hb, k.cell h1 hb, k.cell h2 hb, k.cell h3 hb⟩, k.free h1 f1 hb, k.free h2 f2 hb, k.free h3 f3 hb⟩
theorem At4.kp {w w' : World} {b : Nat} {nm : ByteArray} {t0 t1 tl : Tv} (h : At4 w b nm t0 t1 tl) (k : Kp w w') : At4 w' b nm t0 t1 tl := h.fr (Fr.of_kp k) (by simp)
theorem At4.set1 {w : World} {b : Nat} {nm : ByteArray} {t0 t1 tl : Tv} (h : At4 w b nm t0 t1 tl) (t : Tv) : At4 (w.setCell ⟨b, 1, none⟩ (tvv t)) b nm t t1 tl := by
  obtain ⟨⟨h0, h1, h2, h3⟩, f1, f2, f3⟩ := h
  refine ⟨⟨?_, World.cell?_setCell_same _ _ _ h1, ?_, ?_⟩, ?_, ?_, ?_⟩
  · rw [World.cell?_setCell_other _ _ _ _ (by simp)]; exact h0
  · rw [World.cell?_setCell_other _ _ _ _ (by simp)]; exact h2
  · rw [World.cell?_setCell_other _ _ _ _ (by simp)]; exact h3
  · rw [World.frozen?_setCell]; exact f1
  · rw [World.frozen?_setCell]; exact f2
  · rw [World.frozen?_setCell]; exact f3
theorem At4.set2 {w : World} {b : Nat} {nm : ByteArray} {t0 t1 tl : Tv} (h : At4 w b nm t0 t1 tl) (t : Tv) : At4 (w.setCell ⟨b, 2, none⟩ (tvv t)) b nm t0 t tl := by
  obtain ⟨⟨h0, h1, h2, h3⟩, f1, f2, f3⟩ := h
  refine ⟨⟨?_, ?_, World.cell?_setCell_same _ _ _ h2, ?_⟩, ?_, ?_, ?_⟩
  · rw [World.cell?_setCell_other _ _ _ _ (by simp)]; exact h0
  · rw [World.cell?_setCell_other _ _ _ _ (by simp)]; exact h1
  · rw [World.cell?_setCell_other _ _ _ _ (by simp)]; exact h3
  · rw [World.frozen?_setCell]; exact f1
  · rw [World.frozen?_setCell]; exact f2
  · rw [World.frozen?_setCell]; exact f3
theorem At4.set3 {w : World} {b : Nat} {nm : ByteArray} {t0 t1 tl : Tv} (h : At4 w b nm t0 t1 tl) (t : Tv) : At4 (w.setCell ⟨b, 3, none⟩ (tvv t)) b nm t0 t1 t := by
  obtain ⟨⟨h0, h1, h2, h3⟩, f1, f2, f3⟩ := h
  refine ⟨⟨?_, ?_, ?_, World.cell?_setCell_same _ _ _ h3⟩, ?_, ?_, ?_⟩
  · rw [World.cell?_setCell_other _ _ _ _ (by simp)]; exact h0
  · rw [World.cell?_setCell_other _ _ _ _ (by simp)]; exact h1
  · rw [World.cell?_setCell_other _ _ _ _ (by simp)]; exact h2
  · rw [World.frozen?_setCell]; exact f1
  · rw [World.frozen?_setCell]; exact f2
  · rw [World.frozen?_setCell]; exact f3
theorem row_step {r : ByteArray} {pcs : List ByteArray} (h : rowLs r = lineL pcs 0) (j : Nat) (hj : j < pcs.length) : (rowLs r).take (j + 1) = (rowLs r).take j ++ [(((j % 2 : Nat) : Int), tokL pcs[j])] := by
  have hl : j < (rowLs r).length := by rw [h]; unfold lineL; rw [List.length_mapIdx]; exact hj
  rw [take_step _ _ hl]
  congr 2
  have : ∀ (l : List Ln) (e : rowLs r = l) (h' : j < l.length), (rowLs r)[j] = l[j] := fun l e h' => by subst e; rfl
  rw [this _ h (by rw [← h]; exact hl)]
  unfold lineL
  rw [List.getElem_mapIdx, Nat.zero_add]
/-- What one more message leaves. -/
theorem all_fin {w8 wr wq wc wz w9 : World} {bp : Nat} {nm : ByteArray} {T0 T1 : Tv} {al ao2 tt : Option Addr} {FF : List Nat} {nl cl cap2 mt dt : Nat} {ls : List Ln} {l : Ln} (hl1 : ls.length = nl) (ts : List Tv) (hl2 : ts.length = ls.length) (hl3 : Own wr w8.heap.size 73 2 al nl cl (lnc ls ts))
    (hl4 : ∀ (j : Nat) (h : j < ls.length) (h' : j < ts.length), ts[j].n ≤ 7007 ∧ Sta wr (blkL al ++ (bp :: FF)) (fun w => Is w ts[j].ao ts[j].n ls[j].2)) (hk : Kp wr wz) (hP : At4 wr bp nm T0 T1 ⟨al, nl, cl⟩) (hF : Fr [bp] w8 wr) (hbp : bp < w8.heap.size)
    (hbt : ∀ i ∈ blkL tt, wq.heap.size ≤ i ∧ i < wc.heap.size) (hq : wr.heap.size ≤ wq.heap.size) (_hq2 : wq.heap.size ≤ wz.heap.size) (hq3 : wc.heap.size ≤ wz.heap.size) (hT : Is wz tt mt l.2) (hmt : mt ≤ 7007) (hFb : ∀ j ∈ FF, j < bp)
    (ha : Appd wz w9 w8.heap.size 73 2 al cl 1 (nl + 1) (lnc (ls ++ [l]) (ts ++ [⟨tt, mt, dt⟩])) ao2 cap2) :
    At4 (w9.setCell ⟨bp, 3, none⟩ (.slice ao2 (nl + 1) cap2)) bp nm T0 T1 ⟨ao2, nl + 1, cap2⟩ ∧ LnO (w9.setCell ⟨bp, 3, none⟩ (.slice ao2 (nl + 1) cap2)) w8.heap.size (bp :: FF) ao2 (nl + 1) cap2 (ls ++ [l]) ∧ Fr [bp] w8 (w9.setCell ⟨bp, 3, none⟩ (.slice ao2 (nl + 1) cap2)) := by
  have hal : ∀ i ∈ blkL al, w8.heap.size ≤ i ∧ i < wr.heap.size := fun i hi => hl3.lt i (mem_blkL.1 hi)
  have hbal : bp ∉ blkL al := fun h => by have := (hal bp h).1; omega
  have hs8 := hF.size
  have hL9 : LnO w9 w8.heap.size (bp :: FF) ao2 (nl + 1) cap2 (ls ++ [l]) := LnO.app (a := wr) (w := wz) ⟨hl1, ts, hl2, hl3, hl4⟩ ts hl2 hl4 hk l ⟨tt, mt, dt⟩ hT hmt (fun i hi => by
    obtain ⟨q1, q2⟩ := hbt i hi
    refine ⟨by omega, fun hm => ?_⟩
    rcases List.mem_append.1 hm with q | q
    · have := (hal i q).2; omega
    · rcases List.mem_cons.1 q with q | q
      · omega
      · have := hFb i q; omega) rfl ha
  have hset := Fr.set w9 ⟨bp, 3, none⟩ (.slice ao2 (nl + 1) cap2)
  refine ⟨((hP.kp hk).fr ha.fr hbal).set3 ⟨ao2, nl + 1, cap2⟩, hL9.keep hset (fun i hi => .inl (by simp at hi; simp [hi])) (fun i hi hm => ?_), ?_⟩
  · have := (ha.own.lt i (mem_blkL.1 hm)).1
    simp at hi; omega
  · exact ((hF.trans ((Fr.of_kp hk).mono (by simp))).step ha.fr (fun i hi => .inr (hal i hi).1)).trans hset
theorem PvO.mono {w : World} {B B' : Nat} {X : List Nat} {ao : Option Addr} {n cap k : Nat} (h : PvO w B X ao n cap k) (hb : B' ≤ B) : PvO w B' X ao n cap k := by
  obtain ⟨h1, ps, h2, h3, h4⟩ := h
  exact ⟨h1, ps, h2, h3.mono (fun i hi => Nat.le_trans hb (h3.lt i hi).1), h4⟩
def AllPost (w : World) (X : List Nat) (e : Ending) (w' : World) : Prop := Kp w w' ∧ ∃ ao n cap, e = .returned (.slice ao n cap) ∧ PvO w' w.heap.size X ao n cap 38

set_option maxRecDepth 100000 in
set_option maxHeartbeats 4000000 in
theorem all_any (w : World) (X : List Nat) (hX : ∀ j ∈ X, j < w.heap.size) : Calls Tryz.prog 34 #[] w (AllPost w X) := by
  have Hr := Lib.hid (rows_any w)
  go_enter Tryz.func34, Tryz.ntmps34
  go_wp2_with fail
  (with_reducible refine Hr.out.mono ?_)
  rintro e w1 ⟨hk1, rb, rfl, hS⟩
  have hw1 := hk1.size
  go_wp2_with fail
  go_loopw [1, 3] (fun l i wr => ∃ k n cap ao, k ≤ 38 ∧ i = .int .i64 (k : Nat) ∧ l = .slice ao n cap ∧ PvO wr w1.heap.size X ao n cap k ∧ Kp w1 wr) (fun _ i _ => 38 - (intOf i).toNat)
  case atStart => exact ⟨0, 0, 0, none, by omega, rfl, rfl, PvO.nil _ _ _, Kp.refl _⟩
  case round =>
    obtain ⟨k, n, cap, ao, hk, rfl, rfl, hO, hkk⟩ := hrel
    by_cases hlt : k < 38
    · rename World => wo
      obtain ⟨hnk, ps, hpl, hown, hps⟩ := hO
      replace hnk := hnk.symm
      subst hnk
      obtain ⟨b, off, hbo, hcc⟩ := hS.at k hlt
      have hck := hkk.cell (hcc k hlt)
      have hrk : rowsL[k]? = some (rowsL[k]'(by rw [rowsL_length]; exact hlt)) := List.getElem?_eq_getElem _
      cases hbo
      rw [Nat.zero_add] at hck
      generalize rowsL[k]'(by rw [rowsL_length]; exact hlt) = r at hck hrk
      obtain ⟨r1, r2, r3, r4, r5, r6, r7⟩ := row_ok hrk
      have Hsp := Lib.hid (show Calls Tryz.prog 76 #[.string r, .int .u8 124] wo (SplitPost wo (splitL r 124)) from split_any wo r 124 r1)
      clear hcc
      have Hps := Lib.hid hps; clear hps
      have Hrk := Lib.hid hrk; clear hrk
      have Hr6 := Lib.hid r6; clear r6
      go_wp2_with fail
      (with_reducible refine Hsp.out.mono ?_)
      rintro e w2 ⟨hk2, xo, xm, xc, rfl, hX, _⟩
      have hxm : xm = 4 := by rw [← hX.1, r2]
      subst hxm
      obtain ⟨xb, xoff, rfl, hxc⟩ := hX.at 0 (by omega)
      have hpart : ∀ j (h : j < 4), (splitL r 124)[j]'(by omega) = partL r j := fun j h => by unfold partL; rw [List.getD, List.getElem?_eq_getElem (by omega)]; rfl
      have x0 := hxc 0 (by omega)
      have x1 := hxc 1 (by omega)
      have x2 := hxc 2 (by omega)
      have x3 := hxc 3 (by omega)
      rw [hpart 0 (by omega), Nat.add_zero] at x0
      rw [hpart 1 (by omega)] at x1
      rw [hpart 2 (by omega)] at x2
      rw [hpart 3 (by omega)] at x3
      have hxb : xb < w2.heap.size := World.block_lt_of_cell? w2 _ x0
      clear hxc hX hpart hck r1 r2
      go_upto_region 8 with fail
      generalize hw3 : w2.alloc (.cells #[.string (partL r 0), .slice none 0 0, .slice none 0 0, .slice none 0 0] 26) = w3
      have hk3 : Kp w2 w3 := hw3 ▸ Kp.new _ _
      obtain ⟨bp, hbp⟩ : ∃ bp, bp = w2.heap.size := ⟨_, rfl⟩
      have hP : At4 w3 bp (partL r 0) ⟨none, 0, 0⟩ ⟨none, 0, 0⟩ ⟨none, 0, 0⟩ := by rw [hbp]; exact hw3 ▸ At4.new w2 _
      rw [← hbp]
      have hFb : ∀ j ∈ blkL ao ++ X, j < bp := fun j hj => by
        have := hk2.size
        rcases List.mem_append.1 hj with hj | hj
        · have := (hown.lt j (mem_blkL.1 hj)).2; omega
        · have := hX j hj; have := hkk.size; omega
      have hbo : wo.heap.size ≤ bp := by have := hk2.size; omega
      have hbp3 : bp < w3.heap.size := World.block_lt_of_cell? w3 _ hP.1.1
      have hxn : xb ≠ bp := by omega
      clear hbp hw3
      replace x1 := hk3.cell x1
      replace x2 := hk3.cell x2
      replace x3 := hk3.cell x3
      have Ht1 := Lib.hid (tokens_any w3 (partL r 1) r3)
      clear x0
      go_wp2_with fail
      (with_reducible refine Ht1.out.mono ?_)
      rintro e w4 ⟨hk4, t0, m0, d0, rfl, hT0, hm0, hd0, hb0⟩
      replace hP := hP.kp hk4
      obtain ⟨⟨e0, e1, e2, e3⟩, f1, f2, f3⟩ := hP
      go_upto_region 9 with fail
      generalize hw5 : w4.setCell ⟨bp, 1, none⟩ (.slice t0 m0 d0) = w5
      have hF5 : Fr [bp] w4 w5 := hw5 ▸ Fr.set w4 ⟨bp, 1, none⟩ _
      have hP : At4 w5 bp (partL r 0) ⟨t0, m0, d0⟩ ⟨none, 0, 0⟩ ⟨none, 0, 0⟩ := hw5 ▸ At4.set1 ⟨⟨e0, e1, e2, e3⟩, f1, f2, f3⟩ ⟨t0, m0, d0⟩
      clear hw5 e0 e1 e2 e3 f1 f2 f3
      have S0 : Sta w5 (bp :: (blkL ao ++ X)) (fun w => Is w t0 m0 (tokL (partL r 1))) := (Sta.new (X := bp :: (blkL ao ++ X)) hT0 (fun j hj hj2 => by
        have := hb0 j hj
        rcases List.mem_cons.1 hj2 with q | q
        · omega
        · have := hFb j q; omega)).step hF5 (fun j hj => .inl (by simp at hj; simp [hj])) (fun j hj => .inl hj)
      replace x2 := hF5.cell (hk4.cell x2) (by simpa using hxn)
      replace x3 := hF5.cell (hk4.cell x3) (by simpa using hxn)
      have hs35 : w3.heap.size ≤ w5.heap.size := Nat.le_trans hk4.size hF5.size
      have hF35 : Fr [bp] w3 w5 := ((Fr.of_kp hk4).mono (by simp)).trans hF5
      have Ht2 := Lib.hid (tokens_any w5 (partL r 2) r4)
      clear Ht1 hT0 hb0 x1
      go_wp2_with fail
      (with_reducible refine Ht2.out.mono ?_)
      rintro e w6 ⟨hk6, t1, m1, d1, rfl, hT1, hm1, hd1, hb1⟩
      replace hP := hP.kp hk6
      obtain ⟨⟨e0, e1, e2, e3⟩, f1, f2, f3⟩ := hP
      go_upto_region 10 with fail
      generalize hw7 : w6.setCell ⟨bp, 2, none⟩ (.slice t1 m1 d1) = w7
      have hF7 : Fr [bp] w6 w7 := hw7 ▸ Fr.set w6 ⟨bp, 2, none⟩ _
      have hP : At4 w7 bp (partL r 0) ⟨t0, m0, d0⟩ ⟨t1, m1, d1⟩ ⟨none, 0, 0⟩ := hw7 ▸ At4.set2 ⟨⟨e0, e1, e2, e3⟩, f1, f2, f3⟩ ⟨t1, m1, d1⟩
      clear hw7 e0 e1 e2 e3 f1 f2 f3
      have S1 : Sta w7 (bp :: (blkL ao ++ X)) (fun w => Is w t1 m1 (tokL (partL r 2))) := (Sta.new (X := bp :: (blkL ao ++ X)) hT1 (fun j hj hj2 => by
        have := hb1 j hj
        rcases List.mem_cons.1 hj2 with q | q
        · omega
        · have := hFb j q; omega)).step hF7 (fun j hj => .inl (by simp at hj; simp [hj])) (fun j hj => .inl hj)
      replace S0 := (S0.kp hk6).step hF7 (Z := bp :: (blkL ao ++ X)) (fun j hj => .inl (by simp at hj; simp [hj])) (fun j hj => .inl hj)
      replace x3 := hF7.cell (hk6.cell x3) (by simpa using hxn)
      have hF37 : Fr [bp] w3 w7 := hF35.trans (((Fr.of_kp hk6).mono (by simp)).trans hF7)
      have hs37 : w3.heap.size ≤ w7.heap.size := Nat.le_trans hs35 (Nat.le_trans hk6.size hF7.size)
      have Ht3 := Lib.hid (show Calls Tryz.prog 76 #[.string (partL r 3), .int .u8 59] w7 (SplitPost w7 (splitL (partL r 3) 59)) from split_any w7 (partL r 3) 59 r5)
      clear Ht2 hT1 hb1 x2
      go_wp2_with fail
      (with_reducible refine Ht3.out.mono ?_)
      rintro e w8 ⟨hk8, yo, M, yc, rfl, hY, hyb⟩
      replace hP := hP.kp hk8
      replace S0 := S0.kp hk8
      replace S1 := S1.kp hk8
      have hM : M ≤ 1000 := by rw [← hY.1]; exact r7
      have hF38 : Fr [bp] w3 w8 := hF37.trans ((Fr.of_kp hk8).mono (by simp))
      have hs38 : w3.heap.size ≤ w8.heap.size := Nat.le_trans hs37 hk8.size
      have hyn : ∀ j ∈ blkL yo, j ≠ bp := fun j hj => by have := hyb j hj; omega
      obtain ⟨pcs, hpcs⟩ : ∃ pcs, pcs = splitL (partL r 3) 59 := ⟨_, rfl⟩
      rw [← hpcs] at hY Hr6
      have Hls := Lib.hid (show rowLs r = lineL pcs 0 by rw [hpcs]; rfl)
      clear hpcs Ht3 x3 hyb r3 r4 r5 r7
      go_wp2_with fail
      have Hd := Lib.hid (And.intro hk2 (And.intro hk3 hF38))
      have HS := Lib.hid (And.intro S0 S1)
      clear hF5 hk4 hF35 hk6 hF7 hF37 hk8 hs35 hs37 S0 S1 Hsp hF38
      go_loopw [7] (fun i wi => ∃ (j nl cl : Nat) (al : Option Addr), j ≤ M ∧ i = .int .i64 (j : Nat) ∧ At4 wi bp (partL r 0) ⟨t0, m0, d0⟩ ⟨t1, m1, d1⟩ ⟨al, nl, cl⟩ ∧ LnO wi w8.heap.size (bp :: (blkL ao ++ X)) al nl cl ((rowLs r).take j) ∧ Fr [bp] w8 wi) (fun i _ => M - (intOf i).toNat)
      case atStart => exact ⟨0, 0, 0, none, by omega, rfl, hP, LnO.nil _ _ _, Fr.refl _ _⟩
      case round =>
        obtain ⟨j, nl, cl, al, hj, rfl, hP, hL, hF⟩ := hrel
        by_cases hjM : j < M
        · obtain ⟨yb, yoff, rfl, hyc⟩ := hY.at j hjM
          have hlj : j < pcs.length := by rw [hY.1]; exact hjM
          have hyj := hF.cell (hyc j hjM) (by have := hyn yb (by simp [blkL, blk]); simpa using this)
          have hxs := Hr6.out (pcs[j]'hlj) (List.getElem_mem _)
          have hst := row_step Hls.out j hlj
          clear hyc
          generalize pcs[j]'hlj = x at hyj hxs hst
          have Hst := Lib.hid hst; clear hst
          obtain ⟨⟨e0, e1, e2, e3⟩, f1, f2, f3⟩ := hP
          obtain ⟨hl1, ts, hl2, hl3, hl4⟩ := hL
          have hnl : nl ≤ 1000 := by rw [← hl1, List.length_take]; omega
          have hbal : bp ∉ blkL al := fun h => by have := (hl3.lt bp (mem_blkL.1 h)).1; omega
          have HP := Lib.hid (show At4 wr bp (partL r 0) ⟨t0, m0, d0⟩ ⟨t1, m1, d1⟩ ⟨al, nl, cl⟩ from ⟨⟨e0, e1, e2, e3⟩, f1, f2, f3⟩)
          clear e0 e1 e2 f1 f2
          go_upto_region 14 with fail
          refine any_start (by kernel_rfl) ?_
          refine any_take [0, 2, 3, 4, 5, 6] (by kernel_rfl) ?_
          simp only [opsAt, List.getElem?_toArray, List.getElem?_cons_zero, List.getElem?_cons_succ]
          repeat (go_big_quiet_step (fail))
          refine wpQuiet_nil ?_
          generalize hwq : wr.drew = wq
          have hkq : Kp wr wq := hwq ▸ Kp.of_drewN wr 1
          replace e3 : wq.cell? ⟨bp, 3, none⟩ = some (.slice al nl cl) := hkq.cell e3
          have e3q := e3
          replace f3 := (HP.out.kp hkq).2.2.2
          have hyq := hkq.cell hyj
          have Htk := Lib.hid (tokens_any wq x hxs)
          clear hwq hyj
          refine any_two 1 7 (by kernel_rfl) ?_ ?_
          · simp only [opsAt, List.getElem?_toArray, List.getElem?_cons_zero, List.getElem?_cons_succ]
            go_wp2_with fail
            refine any_one 7 (by kernel_rfl) ?_
            simp only [opsAt, List.getElem?_toArray, List.getElem?_cons_zero, List.getElem?_cons_succ]
            go_wp2_with fail
            refine any_one 8 (by kernel_rfl) ?_
            simp only [opsAt, List.getElem?_toArray, List.getElem?_cons_zero, List.getElem?_cons_succ]
            go_wp2_with (go_at_call 77; go_loud (refine Htk.out.mono ?_); rintro e wc ⟨hkc, tt, mt, dt, rfl, hT, hmt, hdt, hbt⟩; have e3 := Kp.cell hkc e3; have f3 := Kp.frz hkc e3q f3; have e3c := e3)
            refine any_take [9] (by kernel_rfl) ?_
            simp only [opsAt, List.getElem?_toArray, List.getElem?_cons_zero, List.getElem?_cons_succ]
            repeat (go_big_quiet_step (fail))
            refine wpQuiet_nil ?_
            refine any_one 10 (by kernel_rfl) ?_
            simp only [opsAt, List.getElem?_toArray, List.getElem?_cons_zero, List.getElem?_cons_succ]
            go_wp2_with fail
            have hcs : Cs (wc.alloc (.cells #[iv ((j : Int) % 2), .slice tt mt dt] 73)) (some ⟨wc.heap.size, 0, none⟩) [iv ((j : Int) % 2), .slice tt mt dt] := Cs.new wc [iv ((j : Int) % 2), .slice tt mt dt] 73 (0, 0)
            have hkz : Kp wc (wc.alloc (.cells #[iv ((j : Int) % 2), .slice tt mt dt] 73)) := Kp.new wc _
            generalize wc.alloc (.cells #[iv ((j : Int) % 2), .slice tt mt dt] 73) = wz at hcs hkz ⊢
            have f3 := Kp.frz hkz e3c f3
            have e3 := Kp.cell hkz e3c
            have e3z := e3
            have hkwz : Kp wr wz := Kp.trans hkq (Kp.trans hkc hkz)
            refine any_one 11 (by kernel_rfl) ?_
            simp only [opsAt, List.getElem?_toArray, List.getElem?_cons_zero, List.getElem?_cons_succ]
            go_wp2_with (at_builtin; refine wpList_app rfl (.tmp 47) (.tmp 56) 24 rfl el24 w8.heap.size rfl (hl3.keep hkwz) rfl [iv ((j : Int) % 2), .slice tt mt dt] rfl hcs (by simp [Value.oneCell']) (nl + 1) rfl (lnc ((rowLs r).take j ++ [(((j % 2 : Nat) : Int), tokL x)]) (ts ++ [⟨tt, mt, dt⟩])) (lnc_append _ _ hl2) (by omega) (Nat.le_trans hF.size hkwz.size) ?_; intro ao2 cap2 w9 ha; have e3 := Fr.cell ha.fr e3 hbal; have f3 := Fr.free ha.fr e3z f3 hbal)
            refine any_take [12] (by kernel_rfl) ?_
            simp only [opsAt, List.getElem?_toArray, List.getElem?_cons_zero, List.getElem?_cons_succ]
            repeat (go_big_quiet_step (fail))
            refine wpQuiet_nil ?_
            refine any_one 13 (by kernel_rfl) ?_
            simp only [opsAt, List.getElem?_toArray, List.getElem?_cons_zero, List.getElem?_cons_succ]
            go_wp2_with fail
            refine any_end (by kernel_rfl) ?_
            have Hfin := Lib.hid (all_fin hl1 ts hl2 hl3 hl4 hkwz HP.out hF (by omega) (fun i hi => (hbt i hi)) hkq.size (hkc.trans hkz).size hkz.size (hkz.is hT) hmt hFb ha)
            go_wp2_with fail
            go_roundw
            case rel => exact ⟨j + 1, nl + 1, cap2, ao2, by omega, by go_num, Hfin.out.1, by rw [Hst.out]; exact Hfin.out.2.1, Hfin.out.2.2⟩
            case measure => simp [intOf]; omega
          · simp only [opsAt, List.getElem?_toArray, List.getElem?_cons_zero, List.getElem?_cons_succ]
            go_wp2_with fail
            refine any_two 1 8 (by kernel_rfl) ?_ ?_
            · simp only [opsAt, List.getElem?_toArray, List.getElem?_cons_zero, List.getElem?_cons_succ]
              go_wp2_with fail
              refine any_one 8 (by kernel_rfl) ?_
              simp only [opsAt, List.getElem?_toArray, List.getElem?_cons_zero, List.getElem?_cons_succ]
              go_wp2_with (go_at_call 77; go_loud (refine Htk.out.mono ?_); rintro e wc ⟨hkc, tt, mt, dt, rfl, hT, hmt, hdt, hbt⟩; have e3 := Kp.cell hkc e3; have f3 := Kp.frz hkc e3q f3; have e3c := e3)
              refine any_take [9] (by kernel_rfl) ?_
              simp only [opsAt, List.getElem?_toArray, List.getElem?_cons_zero, List.getElem?_cons_succ]
              repeat (go_big_quiet_step (fail))
              refine wpQuiet_nil ?_
              refine any_one 10 (by kernel_rfl) ?_
              simp only [opsAt, List.getElem?_toArray, List.getElem?_cons_zero, List.getElem?_cons_succ]
              go_wp2_with fail
              have hcs : Cs (wc.alloc (.cells #[iv ((j : Int) % 2), .slice tt mt dt] 73)) (some ⟨wc.heap.size, 0, none⟩) [iv ((j : Int) % 2), .slice tt mt dt] := Cs.new wc [iv ((j : Int) % 2), .slice tt mt dt] 73 (0, 0)
              have hkz : Kp wc (wc.alloc (.cells #[iv ((j : Int) % 2), .slice tt mt dt] 73)) := Kp.new wc _
              generalize wc.alloc (.cells #[iv ((j : Int) % 2), .slice tt mt dt] 73) = wz at hcs hkz ⊢
              have f3 := Kp.frz hkz e3c f3
              have e3 := Kp.cell hkz e3c
              have e3z := e3
              have hkwz : Kp wr wz := Kp.trans hkq (Kp.trans hkc hkz)
              refine any_one 11 (by kernel_rfl) ?_
              simp only [opsAt, List.getElem?_toArray, List.getElem?_cons_zero, List.getElem?_cons_succ]
              go_wp2_with (at_builtin; refine wpList_app rfl (.tmp 47) (.tmp 56) 24 rfl el24 w8.heap.size rfl (hl3.keep hkwz) rfl [iv ((j : Int) % 2), .slice tt mt dt] rfl hcs (by simp [Value.oneCell']) (nl + 1) rfl (lnc ((rowLs r).take j ++ [(((j % 2 : Nat) : Int), tokL x)]) (ts ++ [⟨tt, mt, dt⟩])) (lnc_append _ _ hl2) (by omega) (Nat.le_trans hF.size hkwz.size) ?_; intro ao2 cap2 w9 ha; have e3 := Fr.cell ha.fr e3 hbal; have f3 := Fr.free ha.fr e3z f3 hbal)
              refine any_take [12] (by kernel_rfl) ?_
              simp only [opsAt, List.getElem?_toArray, List.getElem?_cons_zero, List.getElem?_cons_succ]
              repeat (go_big_quiet_step (fail))
              refine wpQuiet_nil ?_
              refine any_one 13 (by kernel_rfl) ?_
              simp only [opsAt, List.getElem?_toArray, List.getElem?_cons_zero, List.getElem?_cons_succ]
              go_wp2_with fail
              refine any_end (by kernel_rfl) ?_
              have Hfin := Lib.hid (all_fin hl1 ts hl2 hl3 hl4 hkwz HP.out hF (by omega) (fun i hi => (hbt i hi)) hkq.size (hkc.trans hkz).size hkz.size (hkz.is hT) hmt hFb ha)
              go_wp2_with fail
              go_roundw
              case rel => exact ⟨j + 1, nl + 1, cap2, ao2, by omega, by go_num, Hfin.out.1, by rw [Hst.out]; exact Hfin.out.2.1, Hfin.out.2.2⟩
              case measure => simp [intOf]; omega
            · simp only [opsAt, List.getElem?_toArray, List.getElem?_cons_zero, List.getElem?_cons_succ]
              go_wp2_with (go_at_call 77; go_loud (refine Htk.out.mono ?_); rintro e wc ⟨hkc, tt, mt, dt, rfl, hT, hmt, hdt, hbt⟩; have e3 := Kp.cell hkc e3; have f3 := Kp.frz hkc e3q f3; have e3c := e3)
              refine any_take [9] (by kernel_rfl) ?_
              simp only [opsAt, List.getElem?_toArray, List.getElem?_cons_zero, List.getElem?_cons_succ]
              repeat (go_big_quiet_step (fail))
              refine wpQuiet_nil ?_
              refine any_two 1 10 (by kernel_rfl) ?_ ?_
              · simp only [opsAt, List.getElem?_toArray, List.getElem?_cons_zero, List.getElem?_cons_succ]
                go_wp2_with fail
                refine any_one 10 (by kernel_rfl) ?_
                simp only [opsAt, List.getElem?_toArray, List.getElem?_cons_zero, List.getElem?_cons_succ]
                go_wp2_with fail
                have hcs : Cs (wc.alloc (.cells #[iv ((j : Int) % 2), .slice tt mt dt] 73)) (some ⟨wc.heap.size, 0, none⟩) [iv ((j : Int) % 2), .slice tt mt dt] := Cs.new wc [iv ((j : Int) % 2), .slice tt mt dt] 73 (0, 0)
                have hkz : Kp wc (wc.alloc (.cells #[iv ((j : Int) % 2), .slice tt mt dt] 73)) := Kp.new wc _
                generalize wc.alloc (.cells #[iv ((j : Int) % 2), .slice tt mt dt] 73) = wz at hcs hkz ⊢
                have f3 := Kp.frz hkz e3c f3
                have e3 := Kp.cell hkz e3c
                have e3z := e3
                have hkwz : Kp wr wz := Kp.trans hkq (Kp.trans hkc hkz)
                refine any_one 11 (by kernel_rfl) ?_
                simp only [opsAt, List.getElem?_toArray, List.getElem?_cons_zero, List.getElem?_cons_succ]
                go_wp2_with (at_builtin; refine wpList_app rfl (.tmp 47) (.tmp 56) 24 rfl el24 w8.heap.size rfl (hl3.keep hkwz) rfl [iv ((j : Int) % 2), .slice tt mt dt] rfl hcs (by simp [Value.oneCell']) (nl + 1) rfl (lnc ((rowLs r).take j ++ [(((j % 2 : Nat) : Int), tokL x)]) (ts ++ [⟨tt, mt, dt⟩])) (lnc_append _ _ hl2) (by omega) (Nat.le_trans hF.size hkwz.size) ?_; intro ao2 cap2 w9 ha; have e3 := Fr.cell ha.fr e3 hbal; have f3 := Fr.free ha.fr e3z f3 hbal)
                refine any_take [12] (by kernel_rfl) ?_
                simp only [opsAt, List.getElem?_toArray, List.getElem?_cons_zero, List.getElem?_cons_succ]
                repeat (go_big_quiet_step (fail))
                refine wpQuiet_nil ?_
                refine any_one 13 (by kernel_rfl) ?_
                simp only [opsAt, List.getElem?_toArray, List.getElem?_cons_zero, List.getElem?_cons_succ]
                go_wp2_with fail
                refine any_end (by kernel_rfl) ?_
                have Hfin := Lib.hid (all_fin hl1 ts hl2 hl3 hl4 hkwz HP.out hF (by omega) (fun i hi => (hbt i hi)) hkq.size (hkc.trans hkz).size hkz.size (hkz.is hT) hmt hFb ha)
                go_wp2_with fail
                go_roundw
                case rel => exact ⟨j + 1, nl + 1, cap2, ao2, by omega, by go_num, Hfin.out.1, by rw [Hst.out]; exact Hfin.out.2.1, Hfin.out.2.2⟩
                case measure => simp [intOf]; omega
              · simp only [opsAt, List.getElem?_toArray, List.getElem?_cons_zero, List.getElem?_cons_succ]
                go_wp2_with fail
                have hcs : Cs (wc.alloc (.cells #[iv ((j : Int) % 2), .slice tt mt dt] 73)) (some ⟨wc.heap.size, 0, none⟩) [iv ((j : Int) % 2), .slice tt mt dt] := Cs.new wc [iv ((j : Int) % 2), .slice tt mt dt] 73 (0, 0)
                have hkz : Kp wc (wc.alloc (.cells #[iv ((j : Int) % 2), .slice tt mt dt] 73)) := Kp.new wc _
                generalize wc.alloc (.cells #[iv ((j : Int) % 2), .slice tt mt dt] 73) = wz at hcs hkz ⊢
                have f3 := Kp.frz hkz e3c f3
                have e3 := Kp.cell hkz e3c
                have e3z := e3
                refine any_one 1 (by kernel_rfl) ?_
                simp only [opsAt, List.getElem?_toArray, List.getElem?_cons_zero, List.getElem?_cons_succ]
                go_wp2_with fail
                have hkwz : Kp wr wz := Kp.trans hkq (Kp.trans hkc hkz)
                refine any_one 11 (by kernel_rfl) ?_
                simp only [opsAt, List.getElem?_toArray, List.getElem?_cons_zero, List.getElem?_cons_succ]
                go_wp2_with (at_builtin; refine wpList_app rfl (.tmp 47) (.tmp 56) 24 rfl el24 w8.heap.size rfl (hl3.keep hkwz) rfl [iv ((j : Int) % 2), .slice tt mt dt] rfl hcs (by simp [Value.oneCell']) (nl + 1) rfl (lnc ((rowLs r).take j ++ [(((j % 2 : Nat) : Int), tokL x)]) (ts ++ [⟨tt, mt, dt⟩])) (lnc_append _ _ hl2) (by omega) (Nat.le_trans hF.size hkwz.size) ?_; intro ao2 cap2 w9 ha; have e3 := Fr.cell ha.fr e3 hbal; have f3 := Fr.free ha.fr e3z f3 hbal)
                refine any_take [12] (by kernel_rfl) ?_
                simp only [opsAt, List.getElem?_toArray, List.getElem?_cons_zero, List.getElem?_cons_succ]
                repeat (go_big_quiet_step (fail))
                refine wpQuiet_nil ?_
                refine any_one 13 (by kernel_rfl) ?_
                simp only [opsAt, List.getElem?_toArray, List.getElem?_cons_zero, List.getElem?_cons_succ]
                go_wp2_with fail
                refine any_end (by kernel_rfl) ?_
                have Hfin := Lib.hid (all_fin hl1 ts hl2 hl3 hl4 hkwz HP.out hF (by omega) (fun i hi => (hbt i hi)) hkq.size (hkc.trans hkz).size hkz.size (hkz.is hT) hmt hFb ha)
                go_wp2_with fail
                go_roundw
                case rel => exact ⟨j + 1, nl + 1, cap2, ao2, by omega, by go_num, Hfin.out.1, by rw [Hst.out]; exact Hfin.out.2.1, Hfin.out.2.2⟩
                case measure => simp [intOf]; omega
        · obtain rfl : j = M := by omega
          rw [List.take_of_length_le (by rw [Hls.out]; unfold lineL; rw [List.length_mapIdx, hY.1]; exact Nat.le_refl _)] at hL
          have hnl : nl ≤ 1000 := by rw [← hL.1, Hls.out]; unfold lineL; rw [List.length_mapIdx, hY.1]; exact hM
          have hkwr : Kp wo wr := (((Fr.of_kp Hd.out.1).trans (Fr.of_kp Hd.out.2.1)).step (Hd.out.2.2.trans hF) (fun i hi => .inr (by simp at hi; omega))).kp
          have hSL : Sta wr (blkL ao ++ X) (fun w => Lns w al nl (rowLs r)) := hL.sta (by omega) (fun i hi => List.mem_cons_of_mem _ hi) (fun i hi hm => by
            obtain ⟨_, ts, _, hl3, _⟩ := hL
            have := (hl3.lt i (mem_blkL.1 hm)).1
            have := hFb i hi; omega)
          have hS0 := (HS.out.1.step hF (Z := blkL ao ++ X) (fun i hi => .inl (by simp at hi; simp [hi])) (fun i hi => .inl (List.mem_cons_of_mem _ hi)))
          have hS1 := (HS.out.2.step hF (Z := blkL ao ++ X) (fun i hi => .inl (by simp at hi; simp [hi])) (fun i hi => .inl (List.mem_cons_of_mem _ hi)))
          have hpv : Sta wr (blkL ao ++ X) (PvR r ⟨partL r 0, ⟨t0, m0, d0⟩, ⟨t1, m1, d1⟩, ⟨al, nl, cl⟩⟩) := fun w' k => ⟨hm0, hm1, by show nl ≤ 7007; omega, hS0 w' k, hS1 w' k, hSL w' k⟩
          obtain ⟨⟨e0, e1, e2, e3⟩, f1, f2, f3⟩ := hP
          unfold tvv at e1 e2 e3
          simp only at e1 e2 e3
          clear hSL hS0 hS1 HS hL hF Hd
          have hcs : Cs (wr.alloc (.cells #[.string (partL r 0), .slice t0 m0 d0, .slice t1 m1 d1, .slice al nl cl] 26)) (some ⟨wr.heap.size, 0, none⟩) [.string (partL r 0), .slice t0 m0 d0, .slice t1 m1 d1, .slice al nl cl] := Cs.new wr [.string (partL r 0), .slice t0 m0 d0, .slice t1 m1 d1, .slice al nl cl] 26 (0, 0)
          have hown2 : Own (wr.alloc (.cells #[.string (partL r 0), .slice t0 m0 d0, .slice t1 m1 d1, .slice al nl cl] 26)) w1.heap.size 26 4 ao k cap (ps.flatMap pvc) := hown.keep (Kp.trans hkwr (Kp.new _ _))
          have hbase : w1.heap.size ≤ (wr.alloc (.cells #[.string (partL r 0), .slice t0 m0 d0, .slice t1 m1 d1, .slice al nl cl] 26)).heap.size := Nat.le_trans hkk.size (Nat.le_trans hkwr.size (by simp))
          have hzs : (ps ++ [(⟨partL r 0, ⟨t0, m0, d0⟩, ⟨t1, m1, d1⟩, ⟨al, nl, cl⟩⟩ : Pv)]).flatMap pvc = ps.flatMap pvc ++ [.string (partL r 0), .slice t0 m0 d0, .slice t1 m1 d1, .slice al nl cl] := by simp [pvc, tvv]
          have hby : (k + 1) * 88 ≤ 140737488355328 := by omega
          have hone : ∀ u ∈ ([.string (partL r 0), .slice t0 m0 d0, .slice t1 m1 d1, .slice al nl cl] : List Value), u.oneCell' = true := by simp [Value.oneCell']
          go_wp2_with (at_builtin; refine wpList_app rfl (.tmp 59) (.tmp 61) 53 rfl el80 w1.heap.size rfl hown2 rfl [.string (partL r 0), .slice t0 m0 d0, .slice t1 m1 d1, .slice al nl cl] rfl hcs hone (k + 1) rfl ((ps ++ [(⟨partL r 0, ⟨t0, m0, d0⟩, ⟨t1, m1, d1⟩, ⟨al, nl, cl⟩⟩ : Pv)]).flatMap pvc) hzs hby hbase ?_; intro ao2 cap2 w9 ha)
          have Hfin := Lib.hid (show PvO w9 w1.heap.size X ao2 (k + 1) cap2 (k + 1) ∧ Kp w1 w9 from ⟨PvO.app (k := k) ps rfl hpl Hps.out (Kp.trans hkwr (Kp.new _ _)) ⟨partL r 0, ⟨t0, m0, d0⟩, ⟨t1, m1, d1⟩, ⟨al, nl, cl⟩⟩ r Hrk.out rfl (hpv.kp (Kp.new _ _)) rfl ha, ((Fr.of_kp (Kp.trans hkk (Kp.trans hkwr (Kp.new _ _)))).step ha.fr (fun i hi => .inr (hown2.lt i (mem_blkL.1 hi)).1)).kp⟩)
          clear ha
          go_wp2_with fail
          go_roundw
          case rel => exact ⟨k + 1, k + 1, cap2, ao2, by omega, by go_num, rfl, Hfin.out.1, Hfin.out.2⟩
          case measure => simp [intOf]; omega
    · obtain rfl : k = 38 := by omega
      have hpost : AllPost w X (.returned (.slice ao n cap)) wr := ⟨Kp.trans hk1 hkk, ao, n, cap, rfl, hO.mono hw1⟩
      have Hpost := Lib.hid hpost; clear hpost hO
      go_wp2_with fail
      go_ret
      exact Hpost.out
end Go.Proofs.YtkmejehhdjdlbaaGreatDoor

namespace Go.Proofs.YtkmejehhdjdlbaaGreatDoor
open Go.RowKit

/-- The document's table, read. -/
def refL : List (Q.Bt × (List Int × List Int) × List Ln) := rowsL.map fun r => ((partL r 0).data.toList, (tokLQ (partL r 1), tokLQ (partL r 2)), rowLsQ r)
theorem ref_rows : (refL.map fun x => (rowOf x.1).map (fun y => (y.1, y.2.1, y.2.2.1))) = refL.map some := by kernel_rfl
theorem ref_names : (Q.tableL.all fun y => refL.any (fun x => x.1 == y.1)) = true := by kernel_rfl
theorem ref_small : (refL.all fun x => decide (x.2.1.1.length ≤ 2) && decide (x.2.1.2.length ≤ 2) && decide (x.2.2.length ≤ 4) && x.2.2.all (fun l => decide (l.2.length ≤ 5))) = true := by kernel_rfl
theorem ref_mem {k : Nat} {r : ByteArray} (h : rowsL[k]? = some r) : ((partL r 0).data.toList, (tokL (partL r 1), tokL (partL r 2)), rowLs r) ∈ refL := by
  rw [tokL_q, tokL_q, rowLs_q]
  exact List.mem_map.2 ⟨r, List.mem_of_getElem? h, rfl⟩
theorem ref_at {k : Nat} {r : ByteArray} (h : rowsL[k]? = some r) : ∃ y : Row, rowOf (partL r 0).data.toList = some y ∧ y.1 = (partL r 0).data.toList ∧ y.2.1.1 = tokL (partL r 1) ∧ y.2.1.2 = tokL (partL r 2) ∧ y.2.2.1 = rowLs r := by
  have hm := ref_mem h
  obtain ⟨j, hj⟩ := List.getElem?_of_mem hm
  have h1 : (refL.map fun x => (rowOf x.1).map (fun y => (y.1, y.2.1, y.2.2.1)))[j]? = (refL.map some)[j]? := by rw [ref_rows]
  rw [List.getElem?_map, List.getElem?_map, hj] at h1
  simp only [Option.map_some, Option.some.injEq] at h1
  obtain ⟨y, hy, he⟩ := Option.map_eq_some_iff.1 h1
  simp only [Prod.mk.injEq] at he
  exact ⟨y, hy, he.1, by rw [he.2.1], by rw [he.2.1], he.2.2⟩
theorem ref_none {nm : Q.Bt} (h : ∀ (k : Nat) (r : ByteArray), rowsL[k]? = some r → (partL r 0).data.toList ≠ nm) : rowOf nm = none := by
  unfold rowOf
  rw [List.find?_eq_none]
  intro y hy hc
  have h1 := List.all_eq_true.1 ref_names y hy
  obtain ⟨x, hx, hxe⟩ := List.any_eq_true.1 h1
  obtain ⟨r, hr, rfl⟩ := List.mem_map.1 hx
  obtain ⟨k, hk⟩ := List.getElem?_of_mem hr
  exact h k r hk ((beq_iff_eq.1 hxe).trans (beq_iff_eq.1 hc))
/-- What the document's Find answers. -/
def RFindPost (w : World) (nm : Q.Bt) (e : Ending) (w' : World) : Prop := Kp w w' ∧ match rowOf nm with
  | none => e = .returned (.tuple #[zeroP, .bool false])
  | some y => ∃ t0 t1 tl : Tv, e = .returned (.tuple #[.agg #[.string (bs y.1), tvv t0, tvv t1, tvv tl], .bool true]) ∧ PatI w' t0.ao t1.ao tl.ao t0.n t1.n tl.n y.2.1.1 y.2.1.2 y.2.2.1
theorem RFindPost.no {w w' : World} {nm : Q.Bt} (hk : Kp w w') (h : rowOf nm = none) : RFindPost w nm (.returned (.tuple #[zeroP, .bool false])) w' := ⟨hk, by rw [h]⟩
theorem RFindPost.yes {w w' : World} {nm : Q.Bt} {y : Row} {t0 t1 tl : Tv} (hk : Kp w w') (h : rowOf nm = some y) (hp : PatI w' t0.ao t1.ao tl.ao t0.n t1.n tl.n y.2.1.1 y.2.1.2 y.2.2.1) :
    RFindPost w nm (.returned (.tuple #[.agg #[.string (bs y.1), tvv t0, tvv t1, tvv tl], .bool true])) w' := ⟨hk, by rw [h]; exact ⟨t0, t1, tl, rfl, hp⟩⟩
theorem bs_of {s : ByteArray} {x : Q.Bt} (h : x = s.data.toList) : bs x = s := by subst h; exact bs_data s

attribute [local irreducible] tblK tblP tblQ Q.piecesB Q.tableB Q.tableL rowOf rowsL
set_option maxRecDepth 100000 in
set_option maxHeartbeats 4000000 in
theorem rfind_any (w : World) (s : ByteArray) : Calls Tryz.prog 33 #[.string s] w (RFindPost w s.data.toList) := by
  have Ha := Lib.hid (all_any (w.alloc (.cells #[.string ⟨#[]⟩, .slice none 0 0, .slice none 0 0, .slice none 0 0] 26)) [w.heap.size] (by simp))
  have hF4 := Four.new w (.string ⟨#[]⟩) (.slice none 0 0) (.slice none 0 0) (.slice none 0 0) 26
  have HF4 := Lib.hid hF4
  have hk0 := Kp.new w (.cells #[.string ⟨#[]⟩, .slice none 0 0, .slice none 0 0, .slice none 0 0] 26)
  have Hk0 := Lib.hid hk0
  clear hF4 hk0
  go_enter Tryz.func33, Tryz.ntmps33
  go_wp2_with fail
  (with_reducible refine Ha.out.mono ?_)
  rintro e w1 ⟨hk1, ao, n, cap, rfl, hn, ps, hpl, hown, hps⟩
  subst hn
  have HF := Lib.hid (HF4.out.kp hk1)
  have HK := Lib.hid (Kp.trans Hk0.out hk1)
  have hcs := hown.cs
  obtain ⟨b, off, rfl, hc⟩ := hcs.at 0 (by rw [pvc_len]; omega)
  have hcell : ∀ j (h : j < ps.length), w1.cell? ⟨b, off + j * 4, none⟩ = some (.string ps[j].nm) ∧ w1.cell? ⟨b, off + j * 4 + 1, none⟩ = some (tvv ps[j].b0) ∧ w1.cell? ⟨b, off + j * 4 + 2, none⟩ = some (tvv ps[j].b1) ∧ w1.cell? ⟨b, off + j * 4 + 3, none⟩ = some (tvv ps[j].ls) := fun j h => by
    obtain ⟨g0, g1, g2, g3⟩ := pvc_get ps j h
    refine ⟨hc _ _ g0, ?_, ?_, ?_⟩
    · have := hc _ _ g1; rwa [← Nat.add_assoc] at this
    · have := hc _ _ g2; rwa [← Nat.add_assoc] at this
    · have := hc _ _ g3; rwa [← Nat.add_assoc] at this
  have Hps := Lib.hid hps
  have Hcell := Lib.hid hcell
  clear hps hcell hc hcs hown Ha hk1 HF4 Hk0
  go_wp2_with fail
  go_loopw [5] (fun i wr => ∃ k : Nat, k ≤ 38 ∧ i = .int .i64 (k : Nat) ∧ w1 = wr ∧ ∀ (j : Nat) (r : ByteArray), j < k → rowsL[j]? = some r → (partL r 0).data.toList ≠ s.data.toList) (fun i _ => 38 - (intOf i).toNat)
  case atStart => exact ⟨0, by omega, rfl, rfl, fun j r hj => by omega⟩
  case round =>
    obtain ⟨k, hk, rfl, rfl, hno⟩ := hrel
    have Hno := Lib.hid hno
    clear hno
    by_cases hlt : k < 38
    · have hkl : k < ps.length := by omega
      obtain ⟨g0, g1, g2, g3⟩ := Hcell.out k hkl
      obtain ⟨r, hr⟩ : ∃ r, rowsL[k]? = some r := ⟨_, List.getElem?_eq_getElem (by rw [rowsL_length]; omega)⟩
      have hnm := (Hps.out k hkl r hr).1
      by_cases heq : (partL r 0).data.toList = s.data.toList
      · obtain ⟨y, hy1, hy2, hy3, hy4, hy5⟩ := ref_at hr
        have hfin : ∀ w', Fr [w.heap.size] w1 w' → PatI w' (ps[k]'hkl).b0.ao (ps[k]'hkl).b1.ao (ps[k]'hkl).ls.ao (ps[k]'hkl).b0.n (ps[k]'hkl).b1.n (ps[k]'hkl).ls.n y.2.1.1 y.2.1.2 y.2.2.1 := fun w' hk => by
          obtain ⟨_, _, _, q1, q2, q3⟩ := (Hps.out k hkl r hr).2 w' (hk.mono (fun j hj => List.mem_append.2 (.inr hj)))
          rw [hy3, hy4, hy5]
          exact ⟨q1, q2, q3⟩
        have Hfin := Lib.hid hfin
        have hnmy : (ps[k]'hkl).nm = bs y.1 := by rw [hnm, hy2]; exact (bs_data _).symm
        have Hrow := Lib.hid (show rowOf s.data.toList = some y by rw [← heq]; exact hy1)
        have Hb := Lib.hid (show ((bs y.1).toList == s.toList) = true by rw [Lib.toList_data, Lib.toList_data, bs_list, hy2, heq, beq_self_eq_true])
        rw [hnmy] at g0
        generalize ps[k]'hkl = p at g1 g2 g3 Hfin
        obtain ⟨nm, ⟨t0, m0, c0⟩, ⟨t1, m1, c1⟩, ⟨tl, nl, cl⟩⟩ := p
        unfold tvv at g1 g2 g3
        simp only at g1 g2 g3 Hfin
        obtain ⟨wf, hwf, hF, hPf⟩ := HF.out.set (.string (bs y.1)) (.slice t0 m0 c0) (.slice t1 m1 c1) (.slice tl nl cl)
        have hpost : RFindPost w s.data.toList (.returned (.tuple #[.agg #[.string (bs y.1), .slice t0 m0 c0, .slice t1 m1 c1, .slice tl nl cl], .bool true])) wf :=
          RFindPost.yes (t0 := ⟨t0, m0, c0⟩) (t1 := ⟨t1, m1, c1⟩) (tl := ⟨tl, nl, cl⟩) (((Fr.of_kp HK.out).step hF (fun i hi => .inr (by simp at hi; omega))).kp) Hrow.out (Hfin.out _ hF)
        have Hpost := Lib.hid hpost
        have Hwf := Lib.hid hwf
        obtain ⟨s0, s1, s2, s3, f0, f1, f2, f3⟩ := HF.out
        obtain ⟨c0', c1', c2', c3', _, _, _, _⟩ := hPf
        have hb := Hb.out
        clear hfin hpost hwf hF hr hnm heq hnmy hy1 hy2 hy3 hy4 hy5
        go_wp2_with fail
        rw [← Hwf.out]
        refine bodyPost_ret (v := .tuple #[.agg #[.string (bs y.1), .slice t0 m0 c0, .slice t1 m1 c1, .slice tl nl cl], .bool true]) (by simp [results, Tryz.results33, go_sem, c0', c1', c2', c3']) rfl Hpost.out
      · have hb : ((partL r 0).toList == s.toList) = false := by rw [Lib.toList_data, Lib.toList_data, beq_eq_false_iff_ne]; exact heq
        rw [← hnm] at hb
        have Hnext := Lib.hid (show ∀ (j : Nat) (r : ByteArray), j < k + 1 → rowsL[j]? = some r → (partL r 0).data.toList ≠ s.data.toList from fun j r' hj hr' => by
          rcases Nat.lt_or_ge j k with q | q
          · exact Hno.out j r' q hr'
          · obtain rfl : j = k := by omega
            rw [hr] at hr'
            cases hr'
            exact heq)
        generalize ps[k]'hkl = p at g0 g1 g2 g3 hb
        clear hr hnm g1 g2 g3 heq
        go_wp2_with fail
        go_roundw
        case rel => exact ⟨k + 1, by omega, by go_num, trivial, Hnext.out⟩
        case measure => simp [intOf]; omega
    · obtain rfl : k = 38 := by omega
      have hno : rowOf s.data.toList = none := ref_none (fun k r hr => Hno.out k r (by
        have := (List.getElem?_eq_some_iff.1 hr).1
        rw [rowsL_length] at this
        exact this) hr)
      obtain ⟨wf, hwf, hF, hPf⟩ := HF.out.set (.string ⟨#[]⟩) (.slice none 0 0) (.slice none 0 0) (.slice none 0 0)
      have Hpost := Lib.hid (RFindPost.no (((Fr.of_kp HK.out).step hF (fun i hi => .inr (by simp at hi; omega))).kp) hno)
      have Hwf := Lib.hid hwf
      obtain ⟨s0, s1, s2, s3, f0, f1, f2, f3⟩ := HF.out
      obtain ⟨c0', c1', c2', c3', _, _, _, _⟩ := hPf
      clear hno hwf hF
      go_wp2_with fail
      rw [← Hwf.out]
      refine bodyPost_ret (v := .tuple #[zeroP, .bool false]) (by simp [results, Tryz.results33, go_sem, c0', c1', c2', c3']) rfl Hpost.out
end Go.Proofs.YtkmejehhdjdlbaaGreatDoor

namespace Go.Proofs.YtkmejehhdjdlbaaGreatDoor
open Go.RowKit

/-- What is found: the name, what is known ahead, the messages; is there one? -/
def fnd (nm : Q.Bt) : ByteArray × List Int × List Int × List Ln × Bool := match rowOf nm with
  | none => (⟨#[]⟩, [], [], [], false)
  | some y => (bs y.1, y.2.1.1, y.2.1.2, y.2.2.1, true)
theorem row_small {nm : Q.Bt} {y : Row} (h : rowOf nm = some y) : y.2.2.1.length ≤ 5000 ∧ ∀ l ∈ y.2.2.1, l.2.length ≤ 5000 := by
  have hm := List.mem_of_find?_eq_some h
  have ht : (Q.tableL.all fun y => decide (y.2.2.1.length ≤ 5000) && y.2.2.1.all (fun l => decide (l.2.length ≤ 5000))) = true := by kernel_rfl
  have := List.all_eq_true.1 ht y hm
  simp only [Bool.and_eq_true, decide_eq_true_eq, List.all_eq_true] at this
  exact this
theorem find_all (w : World) (E : Nat → Addr) (m : Int) (hE : Env w E m) (s : ByteArray) (hs : s.size ≤ maxLen) : Calls Tryz.prog 32 #[.string s] w fun e w' => Kp w w' ∧ ∃ t0 t1 tl : Tv,
    e = .returned (.tuple #[.agg #[.string (fnd s.data.toList).1, tvv t0, tvv t1, tvv tl], .bool (fnd s.data.toList).2.2.2.2]) ∧ PatI w' t0.ao t1.ao tl.ao t0.n t1.n tl.n (fnd s.data.toList).2.1 (fnd s.data.toList).2.2.1 (fnd s.data.toList).2.2.2.1 := by
  refine (find_any s m E (E 8) w hs hE.mx hE.errs hE.c5).mono ?_
  rintro e w' ⟨hk, h⟩
  refine ⟨hk, ?_⟩
  unfold fnd
  cases hq : rowOf s.data.toList with
  | none =>
    rw [hq] at h
    exact ⟨nilT, nilT, nilT, h, PatI.none w'⟩
  | some y =>
    rw [hq] at h
    obtain ⟨t0, t1, tl, ts, he, hP⟩ := h
    have hs := row_small hq
    exact ⟨t0, t1, tl, he, hP.patI hs.1 hs.2⟩
theorem rfind_all (w : World) (s : ByteArray) (_ : s.size ≤ maxLen) : Calls Tryz.prog 33 #[.string s] w fun e w' => Kp w w' ∧ ∃ t0 t1 tl : Tv,
    e = .returned (.tuple #[.agg #[.string (fnd s.data.toList).1, tvv t0, tvv t1, tvv tl], .bool (fnd s.data.toList).2.2.2.2]) ∧ PatI w' t0.ao t1.ao tl.ao t0.n t1.n tl.n (fnd s.data.toList).2.1 (fnd s.data.toList).2.2.1 (fnd s.data.toList).2.2.2.1 := by
  refine (rfind_any w s).mono ?_
  rintro e w' ⟨hk, h⟩
  refine ⟨hk, ?_⟩
  unfold fnd
  cases hq : rowOf s.data.toList with
  | none =>
    rw [hq] at h
    exact ⟨nilT, nilT, nilT, h, PatI.none w'⟩
  | some y =>
    rw [hq] at h
    obtain ⟨t0, t1, tl, he, hP⟩ := h
    exact ⟨t0, t1, tl, he, hP⟩
end Go.Proofs.YtkmejehhdjdlbaaGreatDoor

namespace Go.Proofs.YtkmejehhdjdlbaaGreatDoor
open Go.RowKit

def sortedB : List Q.Bt → Bool
  | x :: y :: r => decide (x ≤ y) && sortedB (y :: r)
  | _ => true
theorem ref_sorted : sortedB (refL.map (·.1)) = true := by kernel_rfl
theorem ref_perm : (refL.map (·.1)).isPerm (Q.tableL.map (·.1)) = true := by kernel_rfl
theorem sortedB_pair : ∀ {l : List Q.Bt}, sortedB l = true → l.Pairwise (fun x y => decide (x ≤ y) = true)
  | [], _ => List.Pairwise.nil
  | [_], _ => by simp
  | x :: y :: r, h => by
    simp only [sortedB, Bool.and_eq_true] at h
    have ih := sortedB_pair h.2
    refine List.pairwise_cons.2 ⟨fun z hz => ?_, ih⟩
    rcases List.mem_cons.1 hz with rfl | hz
    · exact h.1
    · have h1 := (List.pairwise_cons.1 ih).1 z hz
      simp only [decide_eq_true_eq] at h h1 ⊢
      exact List.le_trans h.1 h1
theorem namesS_ref : namesS = refL.map (·.1) := by
  unfold namesS
  rw [← mergeSort_of_perm (List.isPerm_iff.1 ref_perm), List.mergeSort_of_pairwise (sortedB_pair ref_sorted)]
/-- The name at a place of the order is the document's. -/
theorem namesS_at {k : Nat} (h : k < namesS.length) {r : ByteArray} (hr : rowsL[k]? = some r) : namesS[k] = (partL r 0).data.toList := by
  have h1 : (refL.map (·.1))[k]? = some namesS[k] := by rw [← namesS_ref]; exact List.getElem?_eq_getElem h
  unfold refL at h1
  simp only [List.map_map, List.getElem?_map, hr, Option.map_some, Option.some.injEq] at h1
  exact h1.symm
end Go.Proofs.YtkmejehhdjdlbaaGreatDoor

namespace Go.Proofs.YtkmejehhdjdlbaaGreatDoor
open Go.RowKit

def strictB : List Q.Bt → Bool
  | x :: y :: r => decide (x < y) && strictB (y :: r)
  | _ => true
theorem ref_strict : strictB (refL.map (·.1)) = true := by kernel_rfl
theorem strictB_at : ∀ {l : List Q.Bt}, strictB l = true → ∀ k (h : k + 1 < l.length), l[k] < l[k + 1]
  | [], _, k, h => by simp at h
  | [_], _, k, h => by simp at h
  | x :: y :: r, hs, k, h => by
    simp only [strictB, Bool.and_eq_true, decide_eq_true_eq] at hs
    cases k with
    | zero => exact hs.1
    | succ k => exact strictB_at hs.2 k (by simpa using h)
theorem namesS_lt (k : Nat) (h : k + 1 < namesS.length) : namesS[k] < namesS[k + 1] := by
  have hl : k + 1 < (refL.map (·.1)).length := by rw [← namesS_ref]; exact h
  have := strictB_at ref_strict k hl
  have e : ∀ (l : List Q.Bt) (_ : namesS = l) (h1 : k + 1 < l.length), l[k] < l[k + 1] → namesS[k] < namesS[k + 1] := by
    intro l hl' h1 h2
    subst hl'
    exact h2
  exact e _ namesS_ref hl this
end Go.Proofs.YtkmejehhdjdlbaaGreatDoor

namespace Go.Proofs.YtkmejehhdjdlbaaGreatDoor
open Go.RowKit

attribute [local irreducible] tblK tblP tblQ Q.piecesB Q.tableB Q.tableL rowOf rowsL namesS
/-- The patterns lie there, each at its place. -/
def Wnt (w : World) (g : Nat) : Prop := ∀ (k : Nat) (y : Row) (h : k < namesS.length), rowOf namesS[k] = some y → ∃ t0 t1 tl : Tv, w.cell? ⟨g, k * 4, none⟩ = some (.string (bs y.1)) ∧ w.cell? ⟨g, k * 4 + 1, none⟩ = some (tvv t0) ∧ w.cell? ⟨g, k * 4 + 2, none⟩ = some (tvv t1) ∧ w.cell? ⟨g, k * 4 + 3, none⟩ = some (tvv tl) ∧
  PatI w t0.ao t1.ao tl.ao t0.n t1.n tl.n y.2.1.1 y.2.1.2 y.2.2.1
theorem Wnt.kp {w w' : World} {g : Nat} (h : Wnt w g) (k : Kp w w') : Wnt w' g := fun j y hj hy => by
  obtain ⟨t0, t1, tl, h0, h1, h2, h3, hP⟩ := h j y hj hy
  exact ⟨t0, t1, tl, k.cell h0, k.cell h1, k.cell h2, k.cell h3, hP.kp k⟩
theorem PvO.wnt {w : World} {B : Nat} {X : List Nat} {ao : Option Addr} {n cap : Nat} (h : PvO w B X ao n cap 38) : n = 38 ∧ ∃ g, ao = some ⟨g, 0, none⟩ ∧ Wnt w g := by
  obtain ⟨hn, ps, hpl, hown, hps⟩ := h
  refine ⟨hn, ?_⟩
  obtain ⟨g, rfl⟩ := hown.blockOf (by omega)
  refine ⟨g, rfl, fun k y hk hy => ?_⟩
  have hk38 : k < 38 := by rw [namesS_length, tableL_len] at hk; exact hk
  obtain ⟨b, off, e, hc⟩ := hown.cs.at 0 (by rw [pvc_len]; omega)
  cases e
  have hkl : k < ps.length := by omega
  obtain ⟨g0, g1, g2, g3⟩ := pvc_get ps k hkl
  obtain ⟨r, hr⟩ : ∃ r, rowsL[k]? = some r := ⟨_, List.getElem?_eq_getElem (by rw [rowsL_length]; omega)⟩
  obtain ⟨hnm, hst⟩ := hps k hkl r hr
  obtain ⟨_, _, _, q1, q2, q3⟩ := hst.now
  have hname := namesS_at hk hr
  obtain ⟨y', hy1, hy2, hy3, hy4, hy5⟩ := ref_at hr
  rw [hname, hy1] at hy
  cases hy
  have hnmy : (ps[k]'hkl).nm = bs y.1 := by rw [hnm, hy2]; exact (bs_data _).symm
  rw [hnmy] at g0
  refine ⟨(ps[k]'hkl).b0, (ps[k]'hkl).b1, (ps[k]'hkl).ls, ?_, ?_, ?_, ?_, ?_⟩
  · have := hc _ _ g0; simpa using this
  · have := hc _ _ g1; simpa using this
  · have := hc _ _ g2; simpa using this
  · have := hc _ _ g3; simpa using this
  · rw [hy3, hy4, hy5]
    exact ⟨q1, q2, q3⟩
/-- A pattern among the inner round's: it is the one that is wanted. -/
def InnPost (w : World) (bo bk k : Nat) (inner : Int) (e : Ending) (w' : World) : Prop := e = .returned (.bool (((k : Int) + 1) != inner)) ∧ Fr [bo, bk] w w' ∧ One1 w' bo (.bool true) ∧ One1 w' bk (iv (((k + 1 : Nat) : Nat) : Int))
set_option maxRecDepth 100000 in
set_option maxHeartbeats 8000000 in
theorem inner_any (w : World) (nm : ByteArray) (a0 a1 al e0 e1 el : Option Addr) (n0 c0 n1 c1 nl cl m0 f0 m1 f1 ml fl : Nat) (b0 b1 : List Int) (ls : List Ln) (hP : PatI w a0 a1 al n0 n1 nl b0 b1 ls) (hQ : PatI w e0 e1 el m0 m1 ml b0 b1 ls)
    (bo bk bw bi g cap k : Nat) (inner : Int) (hk : k < 38) (hne : bo ≠ bk) (ho : One1 w bo (.bool true)) (hkk : One1 w bk (iv (k : Nat))) (hw : One1 w bw (.slice (some ⟨g, 0, none⟩) 38 cap)) (hi : One1 w bi (iv inner)) (hbw : bw ≠ bo ∧ bw ≠ bk) (hbi : bi ≠ bo ∧ bi ≠ bk)
    (hc0 : w.cell? ⟨g, k * 4, none⟩ = some (.string nm)) (hc1 : w.cell? ⟨g, k * 4 + 1, none⟩ = some (.slice e0 m0 f0)) (hc2 : w.cell? ⟨g, k * 4 + 2, none⟩ = some (.slice e1 m1 f1)) (hc3 : w.cell? ⟨g, k * 4 + 3, none⟩ = some (.slice el ml fl)) :
    Calls Tryz.prog 37 #[patV nm a0 a1 al n0 c0 n1 c1 nl cl, .pointer (some ⟨bo, 0, none⟩), .pointer (some ⟨bk, 0, none⟩), .pointer (some ⟨bw, 0, none⟩), .pointer (some ⟨bi, 0, none⟩)] w (InnPost w bo bk k inner) := by
  have hk1 := Kp.new w (.cells #[.string nm, .slice a0 n0 c0, .slice a1 n1 c1, .slice al nl cl] 26)
  have hF := Four.new w (.string nm) (.slice a0 n0 c0) (.slice a1 n1 c1) (.slice al nl cl) 26
  have hbo := World.block_lt_of_cell? w _ ho.c
  have hbk := World.block_lt_of_cell? w _ hkk.c
  simp only at hbo hbk
  have Hsz := Lib.hid (And.intro hbo hbk)
  replace ho := ho.kp hk1
  replace hkk := hkk.kp hk1
  replace hw := hw.kp hk1
  replace hi := hi.kp hk1
  replace hc0 := hk1.cell hc0
  replace hc1 := hk1.cell hc1
  replace hc2 := hk1.cell hc2
  replace hc3 := hk1.cell hc3
  replace hP := hP.kp hk1
  replace hQ := hQ.kp hk1
  have Hk1 := Lib.hid hk1
  clear hk1 hbo hbk
  go_enter Tryz.func37, Tryz.ntmps37
  go_upto_region 1 with fail
  obtain ⟨bx, hbx⟩ : ∃ bx, bx = w.heap.size := ⟨_, rfl⟩
  rw [← hbx] at hF ⊢
  generalize w.alloc (.cells #[.string nm, .slice a0 n0 c0, .slice a1 n1 c1, .slice al nl cl] 26) = w1 at *
  clear hbx
  refine region_tailq 13 (by kernel_rfl) (by kernel_rfl) ?_
  obtain ⟨wd, hwd⟩ : ∃ wd, wd = w1.drew := ⟨_, rfl⟩
  have hkd : Kp w1 wd := hwd ▸ (⟨rfl, rfl, rfl, Nat.le_refl _, fun _ _ => rfl⟩ : Kp w1 w1.drew)
  rw [← hwd]
  clear hwd
  have Hkd := Lib.hid (Kp.trans Hk1.out hkd)
  have HSa := Lib.hid (same_yes wd nm a0 a1 al e0 e1 el n0 c0 n1 c1 nl cl m0 f0 m1 f1 ml fl b0 b1 ls (hP.kp hkd) (hQ.kp hkd))
  have HO := Lib.hid (ho.kp hkd)
  have HK := Lib.hid (hkk.kp hkd)
  have HW := Lib.hid (hw.kp hkd)
  have HI := Lib.hid (hi.kp hkd)
  obtain ⟨y0, y1, y2, y3, _, _, _, _⟩ := hF.kp hkd
  replace hc0 := hkd.cell hc0
  replace hc1 := hkd.cell hc1
  replace hc2 := hkd.cell hc2
  replace hc3 := hkd.cell hc3
  obtain ⟨o1, _⟩ := HO.out
  obtain ⟨k1, _⟩ := HK.out
  obtain ⟨v1, _⟩ := HW.out
  obtain ⟨i1, _⟩ := HI.out
  clear ho hkk hw hi hP hQ hkd hF
  have hki : ((k : Nat) : Int) < 38 := by omega
  have hkd2 : decide (((k : Nat) : Int) < 38) = true := decide_eq_true hki
  simp only [List.take_succ_cons, List.take_zero, List.drop_succ_cons, List.drop_zero]
  repeat (go_big_quiet_step (fail))
  refine wpQuiet_nil ?_
  go_wp2_with fail
  (with_reducible refine HSa.out.mono ?_)
  rintro e w4 ⟨rfl, hk4⟩
  have HO4 := HO.out.kp hk4
  have HK4 := HK.out.kp hk4
  have HI4 := HI.out.kp hk4
  have hK4 := Kp.trans Hkd.out hk4
  have hf5 := Fr.set w4 ⟨bo, 0, none⟩ (.bool true)
  have HO5 := Lib.hid (HO4.set (.bool true))
  have HK5 := HK4.fr hf5 (by simp; omega)
  have HI5 := HI4.fr hf5 (by simp; omega)
  have hF5 := Lib.hid (((Fr.of_kp hK4).mono (Y := [bo, bk]) (by simp)).trans (hf5.mono (by simp)))
  clear y0 y1 y2 y3 o1 k1 v1 i1 hc0 hc1 hc2 hc3 hf5 hK4 HK4 HI4
  obtain ⟨o1, o2⟩ := HO4
  go_upto_region 2 with fail
  clear o1 o2 hk4
  generalize w4.setCell ⟨bo, 0, none⟩ (.bool true) = w5 at *
  have hf6 := Fr.set w5 ⟨bk, 0, none⟩ (iv (((k : Nat) : Int) + 1))
  have HK6 := HK5.set (iv (((k : Nat) : Int) + 1))
  have HO6 := HO5.out.fr hf6 (by simp; omega)
  have HI6 := HI5.fr hf6 (by simp; omega)
  have HF6 := Lib.hid (hF5.out.trans (hf6.mono (by simp)))
  have HK7 := Lib.hid HK6
  have HO7 := Lib.hid HO6
  clear hf6 HI5
  obtain ⟨k1, k2⟩ := HK5
  obtain ⟨k3, _⟩ := HK6
  obtain ⟨o3, _⟩ := HO6
  obtain ⟨i3, _⟩ := HI6
  clear hki hkd2
  have hk64 : ((k : Nat) : Int) + 1 ≤ 38 := by omega
  go_wp2_with fail
  go_ret
  exact ⟨rfl, HF6.out, HO7.out, HK7.out⟩
end Go.Proofs.YtkmejehhdjdlbaaGreatDoor

namespace Go.Proofs.YtkmejehhdjdlbaaGreatDoor
open Go.RowKit

attribute [local irreducible] tblK tblP tblQ Q.piecesB Q.tableB Q.tableL rowOf rowsL namesS
theorem names38 : namesS.length = 38 := by rw [namesS_length, tableL_len]
theorem inner_all (wB w : World) (E : Nat → Addr) (m : Int) (hE : Env wB E m) (hk : Kp wB w) (bo bk bw bi g cap : Nat) (inner : Int) (hne : bo ≠ bk) (hbo : wB.heap.size ≤ bo) (hbk : wB.heap.size ≤ bk)
    (ho : One1 w bo (.bool true)) (hkk : One1 w bk (iv 0)) (hw : One1 wB bw (.slice (some ⟨g, 0, none⟩) 38 cap)) (hi : One1 wB bi (iv inner)) (hW : Wnt wB g) :
    Calls Tryz.prog 78 #[.func (.func 37) #[] #[.pointer (some ⟨bo, 0, none⟩), .pointer (some ⟨bk, 0, none⟩), .pointer (some ⟨bw, 0, none⟩), .pointer (some ⟨bi, 0, none⟩)]] w
      fun e w' => e = .returned (.tuple #[]) ∧ Fr [bo, bk] w w' ∧ One1 w' bo (.bool true) ∧ ∃ c : Nat, One1 w' bk (iv (c : Nat)) ∧ ((c : Int) = inner ∨ c = 38) := by
  have hX : ∀ x ∈ [bo, bk], wB.heap.size ≤ x := fun x hx => by simp at hx; omega
  have lbw : bw < wB.heap.size := by have := World.block_lt_of_cell? _ _ hw.c; exact this
  have lbi : bi < wB.heap.size := by have := World.block_lt_of_cell? _ _ hi.c; exact this
  refine (all_iter 37 #[.pointer (some ⟨bo, 0, none⟩), .pointer (some ⟨bk, 0, none⟩), .pointer (some ⟨bw, 0, none⟩), .pointer (some ⟨bi, 0, none⟩)] (enters_of Tryz.func37 (by kernel_rfl) rfl) w m E (E 8) [bo, bk]
    (fun k v => One1 v bo (.bool true) ∧ One1 v bk (iv (k : Nat)) ∧ Fr [bo, bk] w v) (fun v => Fr [bo, bk] w v ∧ One1 v bo (.bool true) ∧ ∃ c : Nat, One1 v bk (iv (c : Nat)) ∧ ((c : Int) = inner ∨ c = 38)) ?_ ?_ ?_ ?_ ?_ ?_)
  · intro x hx
    have h1 := World.block_lt_of_cell? _ _ ho.c
    have h2 := World.block_lt_of_cell? _ _ hkk.c
    simp only at h1 h2
    simp at hx
    rcases hx with rfl | rfl <;> assumption
  · rintro k v v' ⟨h1, h2, h3⟩ hv
    exact ⟨h1.kp hv, h2.kp hv, h3.trans ((Fr.of_kp hv).mono (by simp))⟩
  · rintro k v ⟨_, _, h3⟩
    have hv := hE.keep (kp_step' hk h3 hX)
    exact ⟨hv.mx, hv.errs, hv.c5⟩
  · exact ⟨ho, hkk, Fr.refl _ _⟩
  · rintro k v y t0 t1 tl ts hkl hr hy ⟨h1, h2, h3⟩ hP
    have hv := kp_step' hk h3 hX
    have hs := row_small hr
    obtain ⟨u0, u1, ul, c0, c1, c2, c3, hQ⟩ := (hW.kp hv) k y hkl (by rw [← hy] at hr ⊢; exact hr)
    refine (inner_any v (bs y.1) t0.ao t1.ao tl.ao u0.ao u1.ao ul.ao t0.n t0.c t1.n t1.c tl.n tl.c u0.n u0.c u1.n u1.c ul.n ul.c y.2.1.1 y.2.1.2 y.2.2.1 (hP.patI hs.1 hs.2) hQ bo bk bw bi g cap k inner (by rw [names38] at hkl; exact hkl) hne h1 h2 (hw.kp hv) (hi.kp hv) (by omega) (by omega) c0 c1 c2 c3).mono ?_
    rintro e v' ⟨rfl, hf, g1, g2⟩
    refine ⟨_, rfl, hf, fun _ => ⟨g1, g2, h3.trans hf⟩, fun hb => ⟨h3.trans hf, g1, k + 1, g2, .inl ?_⟩⟩
    simp at hb
    omega
  · rintro v ⟨h1, h2, h3⟩
    exact ⟨h3, h1, namesS.length, h2, .inr names38⟩
end Go.Proofs.YtkmejehhdjdlbaaGreatDoor
