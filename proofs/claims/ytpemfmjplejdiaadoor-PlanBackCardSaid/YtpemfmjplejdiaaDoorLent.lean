/- What 'lent' answers. Conditions: the pattern lies there (Is, Lns) and is small. -/
import Derived.Test.YtpemfmjplejdiaaDoorGa5
import Derived.Test.YtpemfmjplejdiaaDoorRefUnrollA
namespace Go.Proofs.YtpemfmjplejdiaaDoor
open Go.RowKit

theorem Rm.mono {B B' : Nat} {w : World} {ao : Option Addr} {n cap : Nat} {xs : List Int} (h : Rm B w ao n cap xs) (hb : B' ≤ B) : Rm B' w ao n cap xs := by
  obtain ⟨h1, h2, g, h3, h4, h5⟩ := h
  exact ⟨h1, h2, g, h3, by omega, h5⟩
theorem LnR.mono {B B' : Nat} {w : World} {ao : Option Addr} {n cap : Nat} {ls : List Ln} (h : LnR B w ao n cap ls) (hb : B' ≤ B) : LnR B' w ao n cap ls := by
  obtain ⟨h1, h2, h3, g, h4, h5, h6, h7⟩ := h
  refine ⟨h1, h2, h3, g, h4, by omega, h6, fun j hj => ?_⟩
  obtain ⟨t, q1, q2, q3, q4⟩ := h7 j hj
  exact ⟨t, q1, q2, q3, q4.mono hb⟩
/-- A list is laid in its place, whatever the variable's block holds. -/
def Had (B : Nat) (w : World) (bq : Nat) (t : Tv) (n : Nat) (xs : List Int) : Prop := t.n = n ∧ Sta w [bq] (fun w => Rm B w t.ao t.n t.c xs)
theorem Had.step {B bq n : Nat} {w w' : World} {t : Tv} {xs : List Int} (h : Had B w bq t n xs) (k : Fr [bq] w w') : Had B w' bq t n xs := ⟨h.1, h.2.step k (by simp) (by simp)⟩
theorem At4.of (w : World) (nm : ByteArray) (t0 t1 tl : Tv) : At4 (w.alloc (.cells #[.string nm, tvv t0, tvv t1, tvv tl] 26)) w.heap.size nm t0 t1 tl := by
  refine ⟨⟨?_, ?_, ?_, ?_⟩, ?_, ?_, ?_⟩
  · rw [World.cell?_alloc_at _ _ _ _ rfl]; rfl
  · rw [World.cell?_alloc_at _ _ _ _ rfl]; rfl
  · rw [World.cell?_alloc_at _ _ _ _ rfl]; rfl
  · rw [World.cell?_alloc_at _ _ _ _ rfl]; rfl
  · exact World.frozen?_alloc_at _ _ _ _ rfl
  · exact World.frozen?_alloc_at _ _ _ _ rfl
  · exact World.frozen?_alloc_at _ _ _ _ rfl
/-- Four cells that may be written. -/
def Free4 (w : World) (b : Nat) : Prop := ∃ x0 x1 x2 x3, (w.cell? ⟨b, 0, none⟩ = some x0 ∧ w.cell? ⟨b, 1, none⟩ = some x1 ∧ w.cell? ⟨b, 2, none⟩ = some x2 ∧ w.cell? ⟨b, 3, none⟩ = some x3) ∧ w.frozen? ⟨b, 0, none⟩ = false ∧ w.frozen? ⟨b, 1, none⟩ = false ∧ w.frozen? ⟨b, 2, none⟩ = false ∧ w.frozen? ⟨b, 3, none⟩ = false
theorem Free4.of (w : World) (x0 x1 x2 x3 : Value) (t : TypeId) : Free4 (w.alloc (.cells #[x0, x1, x2, x3] t)) w.heap.size := by
  refine ⟨x0, x1, x2, x3, ⟨?_, ?_, ?_, ?_⟩, ?_, ?_, ?_, ?_⟩
  · rw [World.cell?_alloc_at _ _ _ _ rfl]; rfl
  · rw [World.cell?_alloc_at _ _ _ _ rfl]; rfl
  · rw [World.cell?_alloc_at _ _ _ _ rfl]; rfl
  · rw [World.cell?_alloc_at _ _ _ _ rfl]; rfl
  · exact World.frozen?_alloc_at _ _ _ _ rfl
  · exact World.frozen?_alloc_at _ _ _ _ rfl
  · exact World.frozen?_alloc_at _ _ _ _ rfl
  · exact World.frozen?_alloc_at _ _ _ _ rfl
theorem Free4.fr {X : List Nat} {w w' : World} {b : Nat} (h : Free4 w b) (k : Fr X w w') (hb : b ∉ X) : Free4 w' b := by
  obtain ⟨x0, x1, x2, x3, ⟨h0, h1, h2, h3⟩, f0, f1, f2, f3⟩ := h
  exact ⟨x0, x1, x2, x3, ⟨k.cell h0 hb, k.cell h1 hb, k.cell h2 hb, k.cell h3 hb⟩, k.free h0 f0 hb, k.free h1 f1 hb, k.free h2 f2 hb, k.free h3 f3 hb⟩
set_option maxRecDepth 100000 in
set_option maxHeartbeats 4000000 in
theorem lent_any (w : World) (nm : ByteArray) (a0 a1 al : Option Addr) (n0 c0 n1 c1 nl cl : Nat) (b0 b1 : List Int) (ls : List Ln) (h0 : Is w a0 n0 b0) (h1 : Is w a1 n1 b1) (hl : Lns w al nl ls) (hs : SmallP n0 n1 nl nm.size ls) :
    Calls Tryd.prog 11 #[.agg #[.string nm, .slice a0 n0 c0, .slice a1 n1 c1, .slice al nl cl]] w (LentPost w nm b0 b1 ls n0 n1 nl) := by
  obtain ⟨s0, s1, sl, -, sls⟩ := hs
  have hk1 := Kp.new w (.cells #[.string nm, .slice a0 n0 c0, .slice a1 n1 c1, .slice al nl cl] 26)
  have hk2 := Kp.new (w.alloc (.cells #[.string nm, .slice a0 n0 c0, .slice a1 n1 c1, .slice al nl cl] 26)) (.cells #[.string ⟨#[]⟩, .slice none 0 0, .slice none 0 0, .slice none 0 0] 26)
  have hk3 := Kp.new ((w.alloc (.cells #[.string nm, .slice a0 n0 c0, .slice a1 n1 c1, .slice al nl cl] 26)).alloc (.cells #[.string ⟨#[]⟩, .slice none 0 0, .slice none 0 0, .slice none 0 0] 26)) (.cells #[.string nm, .slice a0 n0 c0, .slice a1 n1 c1, .slice al nl cl] 26)
  have hQ := (Bx.new w nm a0 a1 al n0 c0 n1 c1 nl cl).kp (Kp.trans hk2 hk3)
  have hFr := (Free4.of (w.alloc (.cells #[.string nm, .slice a0 n0 c0, .slice a1 n1 c1, .slice al nl cl] 26)) (.string ⟨#[]⟩) (.slice none 0 0) (.slice none 0 0) (.slice none 0 0) 26).fr (Fr.of_kp hk3) (by simp)
  have hP := At4.of ((w.alloc (.cells #[.string nm, .slice a0 n0 c0, .slice a1 n1 c1, .slice al nl cl] 26)).alloc (.cells #[.string ⟨#[]⟩, .slice none 0 0, .slice none 0 0, .slice none 0 0] 26)) nm ⟨a0, n0, c0⟩ ⟨a1, n1, c1⟩ ⟨al, nl, cl⟩
  have hkw := Kp.trans hk1 (Kp.trans hk2 hk3)
  unfold tvv at hP
  simp only [World.size_alloc] at hFr hP
  obtain ⟨w1, hw1⟩ : ∃ w1, w1 = ((w.alloc (.cells #[.string nm, .slice a0 n0 c0, .slice a1 n1 c1, .slice al nl cl] 26)).alloc (.cells #[.string ⟨#[]⟩, .slice none 0 0, .slice none 0 0, .slice none 0 0] 26)).alloc (.cells #[.string nm, .slice a0 n0 c0, .slice a1 n1 c1, .slice al nl cl] 26) := ⟨_, rfl⟩
  have hsz : w1.heap.size = w.heap.size + 3 := by rw [hw1]; simp
  rw [← hw1] at hQ hFr hP hkw
  obtain ⟨bq, hbq⟩ : ∃ bq, bq = w.heap.size + 1 + 1 := ⟨_, rfl⟩
  rw [← hbq] at hP
  obtain ⟨br, hbr⟩ : ∃ br, br = w.heap.size + 1 := ⟨_, rfl⟩
  rw [← hbr] at hFr
  obtain ⟨bp, hbp⟩ : ∃ bp, bp = w.heap.size := ⟨_, rfl⟩
  rw [← hbp] at hQ
  clear hk1 hk2 hk3
  go_enter Tryd.func11, Tryd.ntmps11
  go_wp2_with fail
  rw [← hw1, ← hbq, ← hbr, ← hbp]
  clear hw1
  have hb1 : w.heap.size ≤ bp := by omega
  have hb2 : bp < br := by omega
  have hb3 : br < bq := by omega
  have hb4 : bq < w1.heap.size := by omega
  have hb5 : w.heap.size ≤ w1.heap.size := by omega
  clear hbq hbr hbp hsz
  obtain ⟨B, hB1, hB2⟩ : ∃ B, B ≤ w1.heap.size ∧ w1.heap.size ≤ B := ⟨_, Nat.le_refl _, Nat.le_refl _⟩
  obtain ⟨q0, q1, q2, q3⟩ := hQ
  go_loopw [4] (fun i wr => ∃ (k : Nat) (t0 t1 : Tv), k ≤ 2 ∧ i = .int .i64 (k : Nat) ∧ Fr [bq] w1 wr ∧ At4 wr bq nm t0 t1 ⟨al, nl, cl⟩ ∧ (Had B wr bq t0 n0 b0 ∨ (k = 0 ∧ t0 = ⟨a0, n0, c0⟩)) ∧ (Had B wr bq t1 n1 b1 ∨ (k ≤ 1 ∧ t1 = ⟨a1, n1, c1⟩))) (fun i _ => 2 - (intOf i).toNat)
  case atStart => exact ⟨0, _, _, by omega, rfl, Fr.refl _ _, hP, .inr ⟨rfl, rfl⟩, .inr ⟨by omega, rfl⟩⟩
  case round =>
    clear hP
    obtain ⟨k, t0, t1, hk, rfl, hF, hP, hT0, hT1⟩ := hrel
    rcases (show k = 0 ∨ k = 1 ∨ k = 2 by omega) with rfl | rfl | rfl

    · rw [show ((0 : Nat) : Int) = 0 from rfl]
      go_upto_region 5 with fail
      refine anyH_start (fun w => w.cell? ⟨bp, 1, none⟩ = some (.slice a0 n0 c0)) (by kernel_rfl) ?_
      generalize hwq : wr.drew = wd
      have hkd : Kp wr wd := hwq ▸ (⟨rfl, rfl, rfl, Nat.le_refl _, fun _ _ => rfl⟩ : Kp wr wr.drew)
      clear hwq
      have hFd : Fr [bq] w1 wd := hF.trans ((Fr.of_kp hkd).mono (by simp))
      have hH : wd.cell? ⟨bp, 1, none⟩ = some (.slice a0 n0 c0) := hFd.cell q1 (by simp; omega)
      have hI : Cs wd a0 (b0.map iv) := Kp.cs ((Fr.of_kp hkw).step hFd (fun i hi => .inr (by simp at hi; omega))).kp h0.2.2
      refine anyH_take [0, 2, 3, 4, 9, 10, 11, 15] (by kernel_rfl) hH ?_
      simp only [opsAt, List.getElem?_toArray, List.getElem?_cons_zero, List.getElem?_cons_succ]
      repeat (go_big_quiet_step (fail))
      refine wpQuiet_nil ?_
      refine anyH_load 5 17 (.slice a0 n0 c0) rfl rfl (by kernel_rfl) hH (fun w h => exec_load22 h rfl rfl) ?_
      simp only [Act.put, List.setIfInBounds_toArray, List.set_cons_zero, List.set_cons_succ]
      refine anyH_load 12 24 (.slice a0 n0 c0) rfl rfl (by kernel_rfl) hH (fun w h => exec_load22 h rfl rfl) ?_
      simp only [Act.put, List.setIfInBounds_toArray, List.set_cons_zero, List.set_cons_succ]
      refine anyH_take [13] (by kernel_rfl) hH ?_
      simp only [opsAt, List.getElem?_toArray, List.getElem?_cons_zero, List.getElem?_cons_succ]
      repeat (go_big_quiet_step (fail))
      refine wpQuiet_nil ?_
      refine anyH_room 22 el22 1 6 7 8 13 19 18 20 (.tmp 17) (.const (iv 77)) ⟨⟨_, rfl, rfl, rfl, rfl⟩, ⟨_, rfl, rfl, rfl, rfl⟩, ⟨_, rfl, rfl, rfl, rfl⟩, ⟨_, rfl, rfl, rfl, rfl⟩⟩ (by kernel_rfl) rfl (by simp) (by simp) rfl rfl run_empty22 [iv 77] (run_one22 77) rfl (by simp [Value.oneCell']) (b0.map iv) (by simp [h0.1]) hI (cells_map_one _ (fun _ => rfl) _) (by omega) (fun w' k => k.cell hH) (by decide) ?_
      rintro va vb vp ao cap w5 ⟨hk5, hO⟩
      simp only [Act.put, List.setIfInBounds_toArray, List.set_cons_zero, List.set_cons_succ]
      have hR : Rm wd.heap.size w5 ao n0 cap b0 := Rm.of_own hO h0.1 (by omega)
      have hcap : n0 + 1 ≤ cap := hO.cap
      replace hH := hk5.cell hH
      have hP5 := hP.kp (Kp.trans hkd hk5)
      obtain ⟨⟨e0, e1, e2, e3⟩, f1, f2, f3⟩ := hP5
      clear hO hI
      refine anyH_take [14, 16] (by kernel_rfl) hH ?_
      simp only [opsAt, List.getElem?_toArray, List.getElem?_cons_zero, List.getElem?_cons_succ]
      repeat (go_big_quiet_step (fail))
      refine wpQuiet_nil ?_
      refine anyN_one 17 (by kernel_rfl) ?_
      simp only [opsAt, List.getElem?_toArray, List.getElem?_cons_zero, List.getElem?_cons_succ]
      have hset := Fr.set w5 ⟨bq, 1, none⟩ (.slice ao n0 cap)
      have hF6 : Fr [bq] wr (w5.setCell ⟨bq, 1, none⟩ (.slice ao n0 cap)) := ((Fr.of_kp (Kp.trans hkd hk5)).mono (by simp)).trans hset
      have hP6 : At4 (w5.setCell ⟨bq, 1, none⟩ (.slice ao n0 cap)) bq nm ⟨ao, n0, cap⟩ t1 ⟨al, nl, cl⟩ := At4.set1 ⟨⟨e0, e1, e2, e3⟩, f1, f2, f3⟩ ⟨ao, n0, cap⟩
      have hR6 : Had B (w5.setCell ⟨bq, 1, none⟩ (.slice ao n0 cap)) bq ⟨ao, n0, cap⟩ n0 b0 := ⟨rfl, Sta.step (X := [bq]) (Z := [bq]) (Sta.rm (hR.mono (by have := hFd.size; omega)) (fun i hi => by have := (hR.lt i hi).1; have := hFd.size; simp; omega)) hset (by simp) (by simp)⟩
      have hH6 := hset.cell hH (by simp; omega)
      replace hT1 : Had B (w5.setCell ⟨bq, 1, none⟩ (.slice ao n0 cap)) bq t1 n1 b1 ∨ ((1 : Nat) ≤ 1 ∧ t1 = ⟨a1, n1, c1⟩) := hT1.imp (fun h => h.step hF6) (fun h => ⟨by omega, h.2⟩)
      have Hfin := Lib.hid (And.intro hF6 (And.intro hP6 (And.intro hR6 hT1)))
      clear hset hF6 hP6 hR6 hR hT0 hT1
      go_wp2_with fail
      refine ⟨hH6, ?_⟩
      refine anyH_end (by kernel_rfl) ?_
      clear hH6 hH e0 e1 e2 e3 f1 f2 f3 hFd hP
      go_wp2_with fail
      go_roundw
      case rel => exact ⟨1, ⟨ao, n0, cap⟩, t1, by omega, by go_num, hF.trans Hfin.out.1, Hfin.out.2.1, .inl Hfin.out.2.2.1, Hfin.out.2.2.2⟩
      case measure => simp [intOf]
    · rw [show ((1 : Nat) : Int) = 1 from rfl]
      go_upto_region 5 with fail
      refine anyH_start (fun w => w.cell? ⟨bp, 2, none⟩ = some (.slice a1 n1 c1)) (by kernel_rfl) ?_
      generalize hwq : wr.drew = wd
      have hkd : Kp wr wd := hwq ▸ (⟨rfl, rfl, rfl, Nat.le_refl _, fun _ _ => rfl⟩ : Kp wr wr.drew)
      clear hwq
      have hFd : Fr [bq] w1 wd := hF.trans ((Fr.of_kp hkd).mono (by simp))
      have hH : wd.cell? ⟨bp, 2, none⟩ = some (.slice a1 n1 c1) := hFd.cell q2 (by simp; omega)
      have hI : Cs wd a1 (b1.map iv) := Kp.cs ((Fr.of_kp hkw).step hFd (fun i hi => .inr (by simp at hi; omega))).kp h1.2.2
      refine anyH_take [0, 2, 3, 4, 9, 10, 11, 15] (by kernel_rfl) hH ?_
      simp only [opsAt, List.getElem?_toArray, List.getElem?_cons_zero, List.getElem?_cons_succ]
      repeat (go_big_quiet_step (fail))
      refine wpQuiet_nil ?_
      refine anyH_load 5 17 (.slice a1 n1 c1) rfl rfl (by kernel_rfl) hH (fun w h => exec_load22 h rfl rfl) ?_
      simp only [Act.put, List.setIfInBounds_toArray, List.set_cons_zero, List.set_cons_succ]
      refine anyH_load 12 24 (.slice a1 n1 c1) rfl rfl (by kernel_rfl) hH (fun w h => exec_load22 h rfl rfl) ?_
      simp only [Act.put, List.setIfInBounds_toArray, List.set_cons_zero, List.set_cons_succ]
      refine anyH_take [13] (by kernel_rfl) hH ?_
      simp only [opsAt, List.getElem?_toArray, List.getElem?_cons_zero, List.getElem?_cons_succ]
      repeat (go_big_quiet_step (fail))
      refine wpQuiet_nil ?_
      refine anyH_room 22 el22 1 6 7 8 13 19 18 20 (.tmp 17) (.const (iv 77)) ⟨⟨_, rfl, rfl, rfl, rfl⟩, ⟨_, rfl, rfl, rfl, rfl⟩, ⟨_, rfl, rfl, rfl, rfl⟩, ⟨_, rfl, rfl, rfl, rfl⟩⟩ (by kernel_rfl) rfl (by simp) (by simp) rfl rfl run_empty22 [iv 77] (run_one22 77) rfl (by simp [Value.oneCell']) (b1.map iv) (by simp [h1.1]) hI (cells_map_one _ (fun _ => rfl) _) (by omega) (fun w' k => k.cell hH) (by decide) ?_
      rintro va vb vp ao cap w5 ⟨hk5, hO⟩
      simp only [Act.put, List.setIfInBounds_toArray, List.set_cons_zero, List.set_cons_succ]
      have hR : Rm wd.heap.size w5 ao n1 cap b1 := Rm.of_own hO h1.1 (by omega)
      have hcap : n1 + 1 ≤ cap := hO.cap
      replace hH := hk5.cell hH
      have hP5 := hP.kp (Kp.trans hkd hk5)
      obtain ⟨⟨e0, e1, e2, e3⟩, f1, f2, f3⟩ := hP5
      clear hO hI
      refine anyH_take [14, 16] (by kernel_rfl) hH ?_
      simp only [opsAt, List.getElem?_toArray, List.getElem?_cons_zero, List.getElem?_cons_succ]
      repeat (go_big_quiet_step (fail))
      refine wpQuiet_nil ?_
      refine anyN_one 17 (by kernel_rfl) ?_
      simp only [opsAt, List.getElem?_toArray, List.getElem?_cons_zero, List.getElem?_cons_succ]
      have hset := Fr.set w5 ⟨bq, 2, none⟩ (.slice ao n1 cap)
      have hF6 : Fr [bq] wr (w5.setCell ⟨bq, 2, none⟩ (.slice ao n1 cap)) := ((Fr.of_kp (Kp.trans hkd hk5)).mono (by simp)).trans hset
      have hP6 : At4 (w5.setCell ⟨bq, 2, none⟩ (.slice ao n1 cap)) bq nm t0 ⟨ao, n1, cap⟩ ⟨al, nl, cl⟩ := At4.set2 ⟨⟨e0, e1, e2, e3⟩, f1, f2, f3⟩ ⟨ao, n1, cap⟩
      have hR6 : Had B (w5.setCell ⟨bq, 2, none⟩ (.slice ao n1 cap)) bq ⟨ao, n1, cap⟩ n1 b1 := ⟨rfl, Sta.step (X := [bq]) (Z := [bq]) (Sta.rm (hR.mono (by have := hFd.size; omega)) (fun i hi => by have := (hR.lt i hi).1; have := hFd.size; simp; omega)) hset (by simp) (by simp)⟩
      have hH6 := hset.cell hH (by simp; omega)
      replace hT0 : Had B (w5.setCell ⟨bq, 2, none⟩ (.slice ao n1 cap)) bq t0 n0 b0 := (hT0.resolve_right (fun h => by omega)).step hF6
      have Hfin := Lib.hid (And.intro hF6 (And.intro hP6 (And.intro hR6 hT0)))
      clear hset hF6 hP6 hR6 hR hT0 hT1
      go_wp2_with fail
      refine ⟨hH6, ?_⟩
      refine anyH_end (by kernel_rfl) ?_
      clear hH6 hH e0 e1 e2 e3 f1 f2 f3 hFd hP
      go_wp2_with fail
      go_roundw
      case rel => exact ⟨2, t0, ⟨ao, n1, cap⟩, by omega, by go_num, hF.trans Hfin.out.1, Hfin.out.2.1, .inl Hfin.out.2.2.2, .inl Hfin.out.2.2.1⟩
      case measure => simp [intOf]
    · rw [show ((2 : Nat) : Int) = 2 from rfl]
      replace hT0 := hT0.resolve_right (fun h => by omega)
      replace hT1 := hT1.resolve_right (fun h => by omega)
      obtain ⟨⟨e0, e1, e2, e3⟩, f1, f2, f3⟩ := hP
      have hP2 : At4 (wr.setCell ⟨bq, 3, none⟩ (.slice none 0 0)) bq nm t0 t1 ⟨none, 0, 0⟩ := At4.set3 ⟨⟨e0, e1, e2, e3⟩, f1, f2, f3⟩ ⟨none, 0, 0⟩
      have hset := Fr.set wr ⟨bq, 3, none⟩ (.slice none 0 0)
      replace hF := hF.trans hset
      replace hT0 := hT0.step hset
      replace hT1 := hT1.step hset
      go_upto_region 7 with fail
      generalize wr.setCell ⟨bq, 3, none⟩ (.slice none 0 0) = w2 at *
      clear hset e0 e1 e2 e3 f1 f2 f3
      have Ha := Lib.hid (And.intro hT0 hT1)
      clear hT0 hT1
      have hs2 := hF.size
      go_wp2_with fail
      go_loopw [5] (fun i wr => ∃ (k cap : Nat) (ao : Option Addr), k ≤ nl ∧ i = .int .i64 (k : Nat) ∧ Fr [bq] w2 wr ∧ At4 wr bq nm t0 t1 ⟨ao, k, cap⟩ ∧ LnW wr w2.heap.size [bq] ao k cap (ls.take k)) (fun i _ => nl - (intOf i).toNat)
      case atStart => exact ⟨0, 0, none, by omega, rfl, Fr.refl _ _, hP2, LnW.nil _ _ _⟩
      case round =>
        clear hP2
        obtain ⟨k, cap, ao, hk, rfl, hF2, hP, hL⟩ := hrel
        have hkwr : Kp w wr := ((Fr.of_kp hkw).step (hF.trans hF2) (fun i hi => .inr (by simp at hi; omega))).kp
        by_cases hlt : k < nl
        · have hkl : k < ls.length := by rw [hl.1]; exact hlt
          have hst := take_step ls k hkl
          have htl := sls k hkl
          obtain ⟨b, off, tp, tn, tc, rfl, hc1, hc2, hI, _⟩ := hl.2.2 k hkl
          obtain ⟨f, ts, hft⟩ : ∃ f ts, ls[k] = (f, ts) := ⟨_, _, rfl⟩
          rw [hft] at hc1 hI htl hst
          replace hI : Is w tp tn ts := hI
          replace htl : tn ≤ 1000 := by rw [← hI.1]; exact htl
          have Hbl := Lib.hid (World.block_lt_of_cell? w _ hc1)
          replace hc1 : wr.cell? ⟨b, off + k * 2, none⟩ = some (iv f) := hkwr.cell hc1
          replace hc2 := hkwr.cell hc2
          have Hst := Lib.hid hst
          clear hst hft
          have q3r : wr.cell? ⟨bp, 3, none⟩ = some (.slice (some ⟨b, off, none⟩) nl cl) := (hF.trans hF2).cell q3 (by simp; omega)
          obtain ⟨hll, tvs, htv, hOw, htok⟩ := hL
          have HP := Lib.hid hP
          have Htok := Lib.hid htok
          clear htok hP
          go_upto_region 10 with fail
          have tok1 : True := trivial
          have hIn : Cs (wr.alloc (.cells #[] 3)) tp (ts.map iv) := Kp.cs (Kp.trans hkwr (Kp.new _ _)) hI.2.2
          have q3a := Kp.cell (Kp.new wr (.cells #[] 3)) q3r
          have hc2a := Kp.cell (Kp.new wr (.cells #[] 3)) hc2
          have hOe := Own.empty wr wr.heap.size 3 1 (Nat.le_refl _)
          go_wp2_with (first | (at_builtin; have _t := tok1; go_loud (refine wpList_app rfl (.tmp 37) (.tmp 43) 22 rfl el22 wr.heap.size rfl hOe rfl (ts.map iv) (by simp [hI.1]) hIn (cells_map_one _ (fun _ => rfl) _) tn (by omega) (ts.map iv) rfl (by omega) (by simp) ?_); intro sp cp w4 ha4; clear tok1; have hcn := Cs.new w4 [iv 77] 3 (0, 0); have hOn := ha4.own.keep (Kp.new w4 (.cells #[iv 77] 3)); have hb4s := ha4.grown.size) | (at_builtin; go_loud (refine wpList_app rfl (.tmp 44) (.tmp 45) 22 rfl el22 wr.heap.size rfl hOn rfl [iv 77] rfl hcn (by simp [Value.oneCell']) (tn + 1) rfl (ts.map iv ++ [iv 77]) rfl (by omega) (by simp at hb4s ⊢; omega) ?_); intro sa sc w5 ha5))
          have hkw5 : Kp wr w5 := (((((Fr.of_kp (Kp.new wr (.cells #[] 3)))).step ha4.fr (fun i hi => .inr (by rw [mem_blkL_some] at hi; omega))).trans (Fr.of_kp (Kp.new w4 (.cells #[iv 77] 3)))).step ha5.fr (fun i hi => .inr (hOn.lt i (mem_blkL.1 hi)).1)).kp
          have hR : Rm wr.heap.size w5 sa tn sc ts := Rm.of_own ha5.own hI.1 htl
          have hcap : tn + 1 ≤ sc := ha5.own.cap
          clear hOn hcn hb4s ha4 ha5 hIn hOe
          have hq3w := hkw5.cell q3r
          have hc2w := hkw5.cell hc2
          have hc1w := hkw5.cell hc1
          have hPw := HP.out.kp hkw5
          clear hc1 hc2 q3r
          obtain ⟨⟨e0, e1, e2, e3⟩, f1, f2, f3⟩ := hPw
          refine anyH_start (fun w => w.cell? ⟨bp, 3, none⟩ = some (.slice (some ⟨b, off, none⟩) nl cl) ∧ w.cell? ⟨b, off + k * 2, none⟩ = some (iv f) ∧ w.cell? ⟨b, off + k * 2 + 1, none⟩ = some (.slice tp tn tc)) (by kernel_rfl) ?_
          generalize hwq : w5.drew = wz
          have hkd : Kp w5 wz := hwq ▸ (⟨rfl, rfl, rfl, Nat.le_refl _, fun _ _ => rfl⟩ : Kp w5 w5.drew)
          clear hwq
          have hH := And.intro (hkd.cell hq3w) (And.intro (hkd.cell hc1w) (hkd.cell hc2w))
          have he3 := hkd.cell e3
          clear hq3w hc1w hc2w e0 e1 e2 e3 f1 f2 f3
          refine anyH_take [0, 2, 4, 8, 9, 11] (by kernel_rfl) hH ?_
          simp only [opsAt, List.getElem?_toArray, List.getElem?_cons_zero, List.getElem?_cons_succ]
          repeat (go_big_quiet_step (fail))
          refine wpQuiet_nil ?_
          refine anyH_load 3 50 (.slice (some ⟨b, off, none⟩) nl cl) rfl rfl (by kernel_rfl) hH (fun w h => exec_load24 h.1 rfl rfl) ?_
          simp only [Act.put, List.setIfInBounds_toArray, List.set_cons_zero, List.set_cons_succ]
          refine anyH_load 10 57 (.slice (some ⟨b, off, none⟩) nl cl) rfl rfl (by kernel_rfl) hH (fun w h => exec_load24 h.1 rfl rfl) ?_
          simp only [Act.put, List.setIfInBounds_toArray, List.set_cons_zero, List.set_cons_succ]
          refine anyH_take [5, 6, 12, 13] (by kernel_rfl) hH ?_
          simp only [opsAt, List.getElem?_toArray, List.getElem?_cons_zero, List.getElem?_cons_succ]
          repeat (go_big_quiet_step (fail))
          refine wpQuiet_nil ?_
          refine anyH_load 7 54 (iv f) rfl rfl (by kernel_rfl) hH (fun w h => exec_load3 h.2.1 rfl rfl) ?_
          simp only [Act.put, List.setIfInBounds_toArray, List.set_cons_zero, List.set_cons_succ]
          refine anyH_load 14 61 (.slice tp tn tc) rfl rfl (by kernel_rfl) hH (fun w h => exec_load22 h.2.2 rfl rfl) ?_
          simp only [Act.put, List.setIfInBounds_toArray, List.set_cons_zero, List.set_cons_succ]
          refine anyH_take [15, 16, 17] (by kernel_rfl) hH ?_
          simp only [opsAt, List.getElem?_toArray, List.getElem?_cons_zero, List.getElem?_cons_succ]
          repeat (go_big_quiet_step (fail))
          refine wpQuiet_nil ?_
          have hkn := Kp.new wz (.cells #[iv f, .slice sa tn sc] 53)
          have hHz := And.intro (hkn.cell hH.1) (And.intro (hkn.cell hH.2.1) (hkn.cell hH.2.2))
          refine anyH_load_bs 1 18 48 65 (.slice ao k cap) _ (vs := #[(0, .agg #[iv f, .slice sa tn sc])]) (by kernel_rfl) rfl rfl rfl rfl rfl rfl rfl (by decide) (by simp) (by simp) (by simp [Act.eval]) (run_line24 f sa tn sc wz) (fun w' k ρ e => exec_load24 (k.cell he3) e rfl) hkn hH hHz (by decide) ?_
          simp only [Act.put, List.setIfInBounds_toArray, List.set_cons_zero, List.set_cons_succ]
          have hcs : Cs (wz.alloc (.cells #[iv f, .slice sa tn sc] 53)) (some ⟨wz.heap.size, 0, none⟩) [iv f, .slice sa tn sc] := Cs.new wz [iv f, .slice sa tn sc] 53 (0, 0)
          have hkz : Kp w5 (wz.alloc (.cells #[iv f, .slice sa tn sc] 53)) := Kp.trans hkd hkn
          generalize wz.alloc (.cells #[iv f, .slice sa tn sc] 53) = wy at hcs hkz hHz ⊢
          clear hH hkd he3 hkn
          refine anyN_one 19 (by kernel_rfl) ?_
          simp only [opsAt, List.getElem?_toArray, List.getElem?_cons_zero, List.getElem?_cons_succ]
          have hky := Kp.trans hkw5 hkz
          have hrow : ∀ i ∈ blkL ao, w2.heap.size ≤ i ∧ i < wr.heap.size := fun i hi => hOw.lt i (mem_blkL.1 hi)
          have hn1 : bp ∉ blkL ao := fun h => by have := (hrow _ h).1; omega
          have hn2 : bq ∉ blkL ao := fun h => by have := (hrow _ h).1; omega
          have hn3 : b ∉ blkL ao := fun h => by have := (hrow _ h).1; have h9 : b < w.heap.size := Hbl.out; omega
          go_wp2_with (at_builtin; go_loud (refine wpList_app rfl (.tmp 48) (.tmp 65) 24 rfl el24 w2.heap.size rfl (hOw.keep hky) rfl [iv f, .slice sa tn sc] rfl hcs (by simp [Value.oneCell']) (k + 1) rfl (lnc (ls.take k ++ [(f, ts)]) (tvs ++ [⟨sa, tn, sc⟩])) (lnc_append _ _ htv) (by omega) (Nat.le_trans hF2.size hky.size) ?_); intro ao2 cap2 w9 ha)
          have hF9 := ha.fr
          have hH9 := And.intro (hF9.cell hHz.1 hn1) (And.intro (hF9.cell hHz.2.1 hn3) (hF9.cell hHz.2.2 hn3))
          refine ⟨hH9, ?_⟩
          have hP9 : At4 w9 bq nm t0 t1 ⟨ao, k, cap⟩ := (HP.out.kp hky).fr hF9 hn2
          have hL9 : LnW w9 w2.heap.size [bq] ao2 (k + 1) cap2 (ls.take k ++ [(f, ts)]) := LnW.app hll tvs htv (fun j h h' => ⟨(Htok.out j h h').1, (Htok.out j h h').2.kp hky⟩) (f, ts) ⟨sa, tn, sc⟩ (Sta.rm ((hR.kp hkz).mono hF2.size) (fun i hi hm => by
              have h1 := (hR.lt i hi).1
              rcases List.mem_append.1 hm with q | q
              · have := (hrow i q).2; omega
              · simp at q; have := hF2.size; omega)) htl rfl ha
          rw [← Hst.out] at hL9
          have hF29 : Fr [bq] w2 w9 := (hF2.trans ((Fr.of_kp hky).mono (by simp))).step hF9 (fun i hi => .inr (hrow i hi).1)
          clear ha hcs hHz hR hOw hky hkz
          refine anyH_take [20] (by kernel_rfl) hH9 ?_
          simp only [opsAt, List.getElem?_toArray, List.getElem?_cons_zero, List.getElem?_cons_succ]
          repeat (go_big_quiet_step (fail))
          refine wpQuiet_nil ?_
          refine anyN_one 21 (by kernel_rfl) ?_
          simp only [opsAt, List.getElem?_toArray, List.getElem?_cons_zero, List.getElem?_cons_succ]
          have hset := Fr.set w9 ⟨bq, 3, none⟩ (.slice ao2 (k + 1) cap2)
          have hPs : At4 (w9.setCell ⟨bq, 3, none⟩ (.slice ao2 (k + 1) cap2)) bq nm t0 t1 ⟨ao2, k + 1, cap2⟩ := hP9.set3 ⟨ao2, k + 1, cap2⟩
          have hLs : LnW (w9.setCell ⟨bq, 3, none⟩ (.slice ao2 (k + 1) cap2)) w2.heap.size [bq] ao2 (k + 1) cap2 (ls.take (k + 1)) := hL9.keep hset (fun i hi => .inl hi) (fun i hi hm => by
              obtain ⟨_, _, _, hO, _⟩ := hL9
              have := (hO.lt i (mem_blkL.1 hm)).1
              simp at hi; omega)
          have Hfin := Lib.hid (And.intro (hF29.trans hset) (And.intro hPs hLs))
          obtain ⟨⟨e0, e1, e2, e3⟩, f1, f2, f3⟩ := hP9
          have HHs := Lib.hid (And.intro (hset.cell hH9.1 (by simp; omega)) (And.intro (hset.cell hH9.2.1 (by have h9 : b < w.heap.size := Hbl.out; simp; omega)) (hset.cell hH9.2.2 (by have h9 : b < w.heap.size := Hbl.out; simp; omega))))
          clear hset hPs hLs hF29 hL9 hH9
          go_wp2_with fail
          refine ⟨HHs.out, ?_⟩
          refine anyH_end (by kernel_rfl) ?_
          clear e0 e1 e2 e3 f1 f2 f3 HHs
          go_wp2_with fail
          go_roundw
          case rel => exact ⟨k + 1, cap2, ao2, by omega, by go_num, Hfin.out⟩
          case measure => simp [intOf]; omega
        · obtain rfl : k = nl := by omega
          rw [List.take_of_length_le (by rw [hl.1]; exact Nat.le_refl _)] at hL
          have Hk := Lib.hid hkwr
          clear hkwr
          obtain ⟨hll, tvs, htv, hOw, htok⟩ := hL
          have HP := Lib.hid hP
          have Htok := Lib.hid htok
          have q3r := (hF.trans hF2).cell q3 (by simp; omega)
          obtain ⟨⟨e0, e1, e2, e3⟩, f1, f2, f3⟩ := hP
          clear htok
          go_upto_region 12 with fail
          refine anyH_start (fun w => w.cell? ⟨bp, 3, none⟩ = some (.slice al k cl)) (by kernel_rfl) ?_
          generalize hwq : wr.drew = wz
          have hkd : Kp wr wz := hwq ▸ (⟨rfl, rfl, rfl, Nat.le_refl _, fun _ _ => rfl⟩ : Kp wr wr.drew)
          clear hwq
          have hH := hkd.cell q3r
          have he3 := hkd.cell e3
          clear e0 e1 e2 e3 f1 f2 f3 q3r
          refine anyH_take [0, 2, 5] (by kernel_rfl) hH ?_
          simp only [opsAt, List.getElem?_toArray, List.getElem?_cons_zero, List.getElem?_cons_succ]
          repeat (go_big_quiet_step (fail))
          refine wpQuiet_nil ?_
          refine anyH_load 6 74 (.slice al k cl) rfl rfl (by kernel_rfl) hH (fun w h => exec_load24 h rfl rfl) ?_
          simp only [Act.put, List.setIfInBounds_toArray, List.set_cons_zero, List.set_cons_succ]
          refine anyH_take [7] (by kernel_rfl) hH ?_
          simp only [opsAt, List.getElem?_toArray, List.getElem?_cons_zero, List.getElem?_cons_succ]
          repeat (go_big_quiet_step (fail))
          refine wpQuiet_nil ?_
          have hkn := Kp.new wz (.cells #[iv 77, .slice none 0 0] 53)
          have hHz := hkn.cell hH
          refine anyH_load_bs 1 3 69 71 (.slice ao k cap) _ (vs := #[(0, .agg #[iv 77, .slice none 0 0])]) (by kernel_rfl) rfl rfl rfl rfl rfl rfl rfl (by decide) (by simp) (by simp) (by simp [Act.eval]) (run_line24 77 none 0 0 wz) (fun w' k ρ e => exec_load24 (k.cell he3) e rfl) hkn hH hHz (by decide) ?_
          simp only [Act.put, List.setIfInBounds_toArray, List.set_cons_zero, List.set_cons_succ]
          have hcs : Cs (wz.alloc (.cells #[iv 77, .slice none 0 0] 53)) (some ⟨wz.heap.size, 0, none⟩) [iv 77, .slice none 0 0] := Cs.new wz [iv 77, .slice none 0 0] 53 (0, 0)
          have hky : Kp wr (wz.alloc (.cells #[iv 77, .slice none 0 0] 53)) := Kp.trans hkd hkn
          generalize wz.alloc (.cells #[iv 77, .slice none 0 0] 53) = wy at hcs hky hHz ⊢
          clear hH hkd he3 hkn
          refine anyN_one 4 (by kernel_rfl) ?_
          simp only [opsAt, List.getElem?_toArray, List.getElem?_cons_zero, List.getElem?_cons_succ]
          have hrow : ∀ i ∈ blkL ao, w2.heap.size ≤ i ∧ i < wr.heap.size := fun i hi => hOw.lt i (mem_blkL.1 hi)
          have hn1 : bp ∉ blkL ao := fun h => by have := (hrow _ h).1; omega
          have hn2 : bq ∉ blkL ao := fun h => by have := (hrow _ h).1; omega
          have hn4 : br ∉ blkL ao := fun h => by have := (hrow _ h).1; omega
          go_wp2_with (at_builtin; go_loud (refine wpList_app rfl (.tmp 69) (.tmp 71) 24 rfl el24 w2.heap.size rfl (hOw.keep hky) rfl [iv 77, .slice none 0 0] rfl hcs (by simp [Value.oneCell']) (k + 1) rfl (lnc (ls ++ [(77, [])]) (tvs ++ [⟨none, 0, 0⟩])) (lnc_append _ _ htv) (by omega) (Nat.le_trans hF2.size hky.size) ?_); intro ao2 cap2 w9 ha)
          have hF9 := ha.fr
          have hH9 := hF9.cell hHz hn1
          refine ⟨hH9, ?_⟩
          have hcap : k + 1 ≤ cap2 := ha.own.cap
          have hR9 : LnR w2.heap.size w9 ao2 k cap2 ls := LnR.of_own hll sl htv ⟨none, 0, 0⟩ ha.own (fun j h h' => ⟨(Htok.out j h h').1, ((Htok.out j h h').2.kp hky w9 (hF9.mono (fun i hi => List.mem_append.2 (.inl hi))))⟩)
          have hP9 : At4 w9 bq nm t0 t1 ⟨ao, k, cap⟩ := (HP.out.kp hky).fr hF9 hn2
          have hF29 : Fr [bq] w2 w9 := (hF2.trans ((Fr.of_kp hky).mono (by simp))).step hF9 (fun i hi => .inr (hrow i hi).1)
          clear ha hcs hHz hOw hky
          refine anyH_take [8, 9] (by kernel_rfl) hH9 ?_
          simp only [opsAt, List.getElem?_toArray, List.getElem?_cons_zero, List.getElem?_cons_succ]
          repeat (go_big_quiet_step (fail))
          refine wpQuiet_nil ?_
          refine anyN_one 10 (by kernel_rfl) ?_
          simp only [opsAt, List.getElem?_toArray, List.getElem?_cons_zero, List.getElem?_cons_succ]
          have hset := Fr.set w9 ⟨bq, 3, none⟩ (.slice ao2 k cap2)
          have hPs : At4 (w9.setCell ⟨bq, 3, none⟩ (.slice ao2 k cap2)) bq nm t0 t1 ⟨ao2, k, cap2⟩ := hP9.set3 ⟨ao2, k, cap2⟩
          have hRs : LnR w2.heap.size (w9.setCell ⟨bq, 3, none⟩ (.slice ao2 k cap2)) ao2 k cap2 ls := hR9.fr hset (by simp; omega)
          have hFs := hF29.trans hset
          have HHs := Lib.hid (hset.cell hH9 (by simp; omega))
          obtain ⟨⟨e0, e1, e2, e3⟩, f1, f2, f3⟩ := hP9
          clear hset hF29 hH9 hR9
          go_wp2_with fail
          refine ⟨HHs.out, ?_⟩
          refine anyH_end (by kernel_rfl) ?_
          clear e0 e1 e2 e3 f1 f2 f3 HHs
          generalize w9.setCell ⟨bq, 3, none⟩ (.slice ao2 k cap2) = wf at *
          obtain ⟨⟨e0, e1, e2, e3⟩, f1, f2, f3⟩ := hPs
          have hFw := hF.trans hFs
          have hA0 := Ha.out.1.step hFs
          have hA1 := Ha.out.2.step hFs
          obtain ⟨x0, x1, x2, x3, ⟨y0, y1, y2, y3⟩, g0, g1, g2, g3⟩ := hFr.fr hFw (by simp; omega)
          obtain ⟨ta, tn0, tc⟩ := t0
          obtain ⟨ua, un1, uc⟩ := t1
          obtain ⟨hz0, hA0⟩ := hA0
          obtain ⟨hz1, hA1⟩ := hA1
          simp only at hz0 hz1
          obtain rfl := hz0
          obtain rfl := hz1
          unfold tvv at e1 e2 e3
          have Hpost := Lib.hid (And.intro (And.intro (((Fr.of_kp hkw).step hFw (fun i hi => .inr (by simp at hi; omega))).kp) hA0.now) (And.intro hA1.now hRs))
          clear hA0 hA1 hRs hFs hFw
          go_wp2_with fail
          have hx1 := Fr.set wf ⟨br, 0, none⟩ (.string nm)
          have hx2 := hx1.trans (Fr.set (wf.setCell ⟨br, 0, none⟩ (.string nm)) ⟨br, 1, none⟩ (.slice ta tn0 tc))
          have hx3 := hx2.trans (Fr.set ((wf.setCell ⟨br, 0, none⟩ (.string nm)).setCell ⟨br, 1, none⟩ (.slice ta tn0 tc)) ⟨br, 2, none⟩ (.slice ua un1 uc))
          have hx4 := hx3.trans (Fr.set (((wf.setCell ⟨br, 0, none⟩ (.string nm)).setCell ⟨br, 1, none⟩ (.slice ta tn0 tc)).setCell ⟨br, 2, none⟩ (.slice ua un1 uc)) ⟨br, 3, none⟩ (.slice ao2 k cap2))
          have hkf := ((Fr.of_kp Hpost.out.1.1).step hx4 (fun i hi => .inr (by simp at hi; omega))).kp
          have hf0 := (Hpost.out.1.2.mono (show w.heap.size ≤ B by omega)).fr hx4 (fun i hi hz => by have := (Hpost.out.1.2.lt i hi).1; simp at hz; omega)
          have hf1 := (Hpost.out.2.1.mono (show w.heap.size ≤ B by omega)).fr hx4 (fun i hi hz => by have := (Hpost.out.2.1.lt i hi).1; simp at hz; omega)
          have hf2 := (Hpost.out.2.2.fr hx4 (fun i hi => by simp at hi; omega)).mono (show w.heap.size ≤ w2.heap.size by omega)
          have Hpo := Lib.hid (show LentPost w nm b0 b1 ls tn0 un1 k (.returned (.agg #[.string nm, .slice ta tn0 tc, .slice ua un1 uc, .slice ao2 k cap2])) _ from ⟨hkf, ta, tc, ua, uc, ao2, cap2, rfl, hf0, hf1, hf2⟩)
          clear hkf hf0 hf1 hf2 hx1 hx2 hx3 hx4 Hpost
          refine bodyPost_ret (v := .agg #[.string nm, .slice ta tn0 tc, .slice ua un1 uc, .slice ao2 k cap2]) (by simp [results, Tryd.results11, go_sem, y0, y1, y2, y3]) rfl Hpo.out
end Go.Proofs.YtpemfmjplejdiaaDoor
