/- One call on both Readers (Pair.step). Condition: the pair is one (Pr). -/
import Derived.Test.YtkpdbdlkihgofaaDoorRefs
import Derived.Test.YtkpdbdlkihgofaaDoorRun
namespace Go.Proofs.YtkpdbdlkihgofaaDoor
open Go.RowKit

theorem Fr.bs0 {X : List Nat} {w w' : World} (h : Fr X w w') {ao : Option Addr} {n : Nat} {xs : List UInt8} (hx : Bs w ao n xs) (hX : 0 < n → ∀ k ∈ blkL ao, k ∉ X) : Bs w' ao n xs := by
  by_cases hn : 0 < n
  · exact h.bs hx (hX hn)
  · obtain rfl : n = 0 := by omega
    obtain rfl : xs = [] := List.eq_nil_of_length_eq_zero hx.1
    exact Bs.zero _ _

/-- Both Readers: the pair's block s, the program's Reader r with its row at ao, the reference's list at ho; what is held of both. -/
def Pr (w : World) (s r : Nat) (ao ho : Option Addr) (held : List UInt8) (T : Nat) : Prop :=
  ∃ hn hc, w.cell? ⟨s, 0, none⟩ = some (.pointer (some ⟨r, 0, none⟩)) ∧ w.cell? ⟨s, 1, none⟩ = some (.slice ho hn hc) ∧ w.frozen? ⟨s, 0, none⟩ = false ∧ w.frozen? ⟨s, 1, none⟩ = false ∧
    Rdr w 0 r ao held T ∧ Bs w ho hn held ∧ hn ≤ hc ∧ (∀ k ∈ blkL ho, k < w.heap.size) ∧ s ∉ r :: blkL ao ∧ (∀ k ∈ blkL ho, k ∉ s :: r :: blkL ao)

/-- The blocks of a pair. -/
def foot (s r : Nat) (ao ho : Option Addr) : List Nat := s :: r :: (blkL ao ++ blkL ho)

theorem Pr.lt {w : World} {s r : Nat} {ao ho : Option Addr} {held : List UInt8} {T : Nat} (h : Pr w s r ao ho held T) : ∀ k ∈ foot s r ao ho, k < w.heap.size := by
  obtain ⟨hn, hc, c0, c1, f0, f1, hR, hB, hh, hlt, hs, hd⟩ := h
  intro k hk
  simp only [foot, List.mem_cons, List.mem_append] at hk
  rcases hk with rfl | rfl | hk | hk
  · exact World.block_lt_of_cell? w _ c0
  · exact hR.lt _ (by simp)
  · exact hR.lt _ (by simp [hk])
  · exact hlt k hk
theorem Pr.keep {X : List Nat} {w w' : World} {s r : Nat} {ao ho : Option Addr} {held : List UInt8} {T : Nat} (h : Pr w s r ao ho held T) (k : Fr X w w') (hX : ∀ j ∈ foot s r ao ho, j ∉ X) : Pr w' s r ao ho held T := by
  obtain ⟨hn, hc, c0, c1, f0, f1, hR, hB, hh, hlt, hs, hd⟩ := h
  have hsX : s ∉ X := hX s (by simp [foot])
  exact ⟨hn, hc, k.cell c0 hsX, k.cell c1 hsX, k.free c0 f0 hsX, k.free c1 f1 hsX, hR.keep k (fun j hj => hX j (by simp only [List.mem_cons] at hj; simp only [foot, List.mem_cons, List.mem_append]; rcases hj with h | h <;> simp [h])),
    k.bs hB (fun j hj => hX j (by simp [foot, hj])), hh, fun j hj => Nat.lt_of_lt_of_le (hlt j hj) k.size, hs, hd⟩

theorem Pr.up {w : World} {s r : Nat} {ao ho : Option Addr} {held : List UInt8} {T T' : Nat} (h : Pr w s r ao ho held T) (hT : T ≤ T') : Pr w s r ao ho held T' := by
  obtain ⟨hn, hc, c0, c1, f0, f1, ⟨n, cap, fr, all, a1, a2, a3, a4, a5, a6, a7, a8, a9⟩, hB, hh, hlt, hs, hd⟩ := h
  exact ⟨hn, hc, c0, c1, f0, f1, ⟨n, cap, fr, all, a1, a2, a3, a4, a5, a6, by omega, a8, a9⟩, hB, hh, hlt, hs, hd⟩

/-- What one call of a script does to what is held. -/
def heldStep (kind : Int) (ys held : List UInt8) : List UInt8 :=
  if kind = 1 then held ++ ys else if kind = 2 then (match nextL held with | some (_, rest) => rest | none => held) else held

/-- What 'step' leaves. -/
def StepPost (w : World) (s r : Nat) (ao ho : Option Addr) (held : List UInt8) (T : Nat) (kind : Int) (ys : List UInt8) (e : Ending) (w' : World) : Prop :=
  e = .returned (.bool true) ∧ ∃ ao' ho', Pr w' s r ao' ho' (heldStep kind ys held) (T + ys.length) ∧ Fr (foot s r ao ho) w w' ∧ (∀ k ∈ foot s r ao' ho', k ∈ foot s r ao ho ∨ w.heap.size ≤ k)

set_option maxHeartbeats 2000000 in
theorem Pr.held {w : World} {s r : Nat} {ao ho : Option Addr} {held : List UInt8} {T : Nat} (h : Pr w s r ao ho held T) (hT : T ≤ 1000000) (kind : Int) (k1 : kind ≠ 1) (k2 : kind ≠ 2) (xo : Option Addr) (xn xc : Nat) (ys : List UInt8) :
    Calls Tryd.prog 17 #[.pointer (some ⟨s, 0, none⟩), .agg #[.int .i64 kind, .slice xo xn xc]] w (StepPost w s r ao ho held T kind ys) := by
  have hP := h
  obtain ⟨hn, hc, c0, c1, f0, f1, hR, hB, hh, hlt, hs, hd⟩ := h
  have hb1 : (kind == 1) = false := by simp [k1]
  have hb2 : (kind == 2) = false := by simp [k2]
  have hF : ∀ q, Fr [] w ((w.alloc (.cells #[.int .i64 kind, .slice xo xn xc] 46)).drewN q) := fun q => (Fr.new _ _ _).trans (Fr.drewN _ _ _)
  have hcall : ∀ q, Calls Tryd.prog 21 #[.pointer (some ⟨r, 0, none⟩)] ((w.alloc (.cells #[.int .i64 kind, .slice xo xn xc] 46)).drewN q) fun e w' => e = .returned (.int .i64 (held.length : Int)) ∧ ∃ k, w' = ((w.alloc (.cells #[.int .i64 kind, .slice xo xn xc] 46)).drewN q).drewN k :=
    fun q => (hR.keep (hF q) (by simp)).held (by omega)
  have Hcall := Lib.hid hcall; clear hcall
  have HF := Lib.hid hF; clear hF
  have hlen := hB.1
  have hle : (held.length : Int) == (hn : Int) := by rw [hlen]; simp
  have e0 := Fr.cell (Fr.new [] w (.cells #[.int .i64 kind, .slice xo xn xc] 46)) c0 (by simp)
  have e1 := Fr.cell (Fr.new [] w (.cells #[.int .i64 kind, .slice xo xn xc] 46)) c1 (by simp)
  have Hlen := Lib.hid hlen; clear hlen
  go_enter Tryd.func17, Tryd.ntmps17
  go_wp2_with fail
  go_quiet ((go_at_call 21; exact Calls.quiet_of (Hcall.out _)))
  go_wp2
  go_ret
  refine ⟨rfl, ao, ho, ?_, (HF.out _).mono (by simp), fun k hk => .inl hk⟩
  rw [heldStep, if_neg k1, if_neg k2]
  exact (hP.keep (HF.out _) (by simp)).up (by omega)

/-- A pair behind a call on each Reader. -/
theorem Pr.made {w w1 w2 w3 w5 : World} {s r : Nat} {ao ao2 ho ro : Option Addr} {rk rc : Nat} {held held2 : List UInt8} {T T2 : Nat} {X : List Nat} (h : Pr w s r ao ho held T) (F1 : Fr [] w w1) (R2 : Rdr w2 0 r ao2 held2 T2)
    (F2 : Fr (r :: blkL ao) w1 w2) (N2 : ∀ k ∈ blkL ao2, k ∈ blkL ao ∨ w1.heap.size ≤ k) (B3 : Bs w3 ro rk held2) (hc3 : rk ≤ rc) (L3 : ∀ k ∈ blkL ro, (k ∈ blkL ho ∨ w2.heap.size ≤ k) ∧ k < w3.heap.size) (F3 : Fr [] w2 w3)
    (F4 : Fr X (w3.setCell ⟨s, 1, none⟩ (.slice ro rk rc)) w5) (hX : ∀ k ∈ X, w.heap.size ≤ k ∧ k < w1.heap.size) :
    Pr w5 s r ao2 ro held2 T2 ∧ Fr (foot s r ao ho) w w5 ∧ ∀ k ∈ foot s r ao2 ro, k ∈ foot s r ao ho ∨ w.heap.size ≤ k := by
  have hlt0 := h.lt
  obtain ⟨hn, hc, c0, c1, f0, f1, hR, hB, hh, hlt, hs, hd⟩ := h
  have hsw : s < w.heap.size := hlt0 s (by simp [foot])
  have hrw : r < w.heap.size := hlt0 r (by simp [foot])
  have haw : ∀ k ∈ blkL ao, k < w.heap.size := fun k hk => hlt0 k (by simp [foot, hk])
  have z1 := F1.size
  have z2 := F2.size
  have z3 := F3.size
  have z5 := F4.size
  simp only [World.size_setCell] at z5
  have sX : s ∉ X := fun hx => by have := (hX s hx).1; omega
  have s2 : s ∉ r :: blkL ao2 := fun hx => by
    rcases List.mem_cons.1 hx with rfl | hx
    · exact hs (by simp)
    · rcases N2 s hx with h1 | h1
      · exact hs (by simp [h1])
      · omega
  have roS : ∀ k ∈ blkL ro, k ∉ s :: r :: blkL ao2 := fun k hk hx => by
    rcases (L3 k hk).1 with h1 | h1
    · have h2 := hd k h1
      simp only [List.mem_cons, not_or] at h2 hx
      rcases hx with hx | hx | hx
      · exact h2.1 hx
      · exact h2.2.1 hx
      · rcases N2 k hx with h3 | h3
        · exact h2.2.2 h3
        · have := hlt k h1; omega
    · simp only [List.mem_cons] at hx
      rcases hx with hx | hx | hx
      · omega
      · omega
      · have := R2.lt k (by simp [hx]); omega
  have roX : ∀ k ∈ blkL ro, k ∉ X := fun k hk hx => by
    have h2 := hX k hx
    rcases (L3 k hk).1 with h1 | h1
    · have := hlt k h1; omega
    · omega
  have F13 : Fr (r :: blkL ao) w w3 := ((F1.mono (by simp)).trans F2).trans (F3.mono (by simp))
  have d0 := F13.cell c0 hs
  have d1 := F13.cell c1 hs
  have g0 := F13.free c0 f0 hs
  have g1 := F13.free c1 f1 hs
  have e0 : (w3.setCell ⟨s, 1, none⟩ (.slice ro rk rc)).cell? ⟨s, 0, none⟩ = some (.pointer (some ⟨r, 0, none⟩)) := by
    rw [World.cell?_setCell_other w3 ⟨s, 1, none⟩ ⟨s, 0, none⟩ _ (by simp)]; exact d0
  have e1 : (w3.setCell ⟨s, 1, none⟩ (.slice ro rk rc)).cell? ⟨s, 1, none⟩ = some (.slice ro rk rc) := World.cell?_setCell_same w3 _ _ d1
  have g0' : (w3.setCell ⟨s, 1, none⟩ (.slice ro rk rc)).frozen? ⟨s, 0, none⟩ = false := by simpa using g0
  have g1' : (w3.setCell ⟨s, 1, none⟩ (.slice ro rk rc)).frozen? ⟨s, 1, none⟩ = false := by simpa using g1
  have F35 : Fr (s :: X) w3 w5 := ((Fr.set w3 ⟨s, 1, none⟩ (.slice ro rk rc)).mono (by simp)).trans (F4.mono (fun k hk => by simp [hk]))
  refine ⟨⟨rk, rc, F4.cell e0 sX, F4.cell e1 sX, F4.free e0 g0' sX, F4.free e1 g1' sX, ?_, ?_, hc3, fun k hk => Nat.lt_of_lt_of_le (L3 k hk).2 z5, s2, roS⟩, ?_, ?_⟩
  · refine (R2.keep F3 (by simp)).keep F35 (fun j hj hx => ?_)
    rcases List.mem_cons.1 hx with rfl | hx
    · exact s2 hj
    · have h2 := hX j hx
      rcases List.mem_cons.1 hj with rfl | hj
      · omega
      · rcases N2 j hj with h3 | h3
        · have := haw j h3; omega
        · omega
  · refine F35.bs B3 (fun j hj hx => ?_)
    rcases List.mem_cons.1 hx with rfl | hx
    · exact roS _ hj (by simp)
    · exact roX _ hj hx
  · refine (F13.mono (fun k hk => ?_)).step F35 (fun j hj => ?_)
    · simp only [List.mem_cons] at hk
      rcases hk with rfl | hk <;> simp [foot, *]
    · rcases List.mem_cons.1 hj with rfl | hj
      · left; simp [foot]
      · right; exact (hX j hj).1
  · intro k hk
    simp only [foot, List.mem_cons, List.mem_append] at hk ⊢
    rcases hk with rfl | rfl | hk | hk
    · simp
    · simp
    · rcases N2 k hk with h1 | h1
      · simp [h1]
      · right; omega
    · rcases (L3 k hk).1 with h1 | h1
      · simp [h1]
      · right; omega

set_option maxHeartbeats 4000000 in
theorem Pr.feed {w : World} {s r : Nat} {ao ho : Option Addr} {held : List UInt8} {T : Nat} (h : Pr w s r ao ho held T) (xo : Option Addr) (xn xc : Nat) (ys : List UInt8) (hy : Bs w xo xn ys) (hT : T + ys.length ≤ 1000000)
    (hlen : held.length ≤ T) (hdis : 0 < xn → ∀ k ∈ blkL xo, k ∉ foot s r ao ho) :
    Calls Tryd.prog 17 #[.pointer (some ⟨s, 0, none⟩), .agg #[.int .i64 1, .slice xo xn xc]] w (StepPost w s r ao ho held T 1 ys) := by
  have hP := h
  obtain ⟨hn, hc, c0, c1, f0, f1, hR, hB, hh, hlt, hs, hd⟩ := h
  have hsw : s < w.heap.size := World.block_lt_of_cell? w _ c0
  have hrw : r < w.heap.size := hR.lt r (by simp)
  have hyl := hy.1
  have hy1 : xn ≤ 1000000 := by omega
  go_enter Tryd.func17, Tryd.ntmps17
  go_wp2_with fail
  have hF1 : Fr [] w (w.alloc (.cells #[.int .i64 1, .slice xo xn xc] 46)) := Fr.new [] _ _
  (with_reducible refine (roomy_any _ xo xn xc ys (hF1.bs hy (by simp)) hy1).mono ?_)
  rintro e w1 ⟨rfl, hA1, hk1⟩
  simp only [World.size_alloc] at hA1 ⊢
  have hF1 := hF1.trans (Fr.of_kp hk1)
  have hb0 : w1.cell? ⟨w.heap.size, 0, none⟩ = some (.int .i64 1) := Kp.cell hk1 (by rw [World.cell?_alloc_at _ _ _ _ rfl]; rfl)
  have hb1 : w1.cell? ⟨w.heap.size, 1, none⟩ = some (.slice xo xn xc) := Kp.cell hk1 (by rw [World.cell?_alloc_at _ _ _ _ rfl]; rfl)
  have e0 := hF1.cell c0 (by simp)
  have e1 := hF1.cell c1 (by simp)
  have g0 := hF1.free c0 f0 (by simp)
  have g1 := hF1.free c1 f1 (by simp)
  have hy1' := hF1.bs hy (by simp)
  have hgd : w.heap.size + 1 < w1.heap.size := (hA1.lt _ rfl).2
  have hAd := hA1.bs.head xn (by omega)
  have Hyl := Lib.hid hyl; clear hyl
  rw [← Hyl.out, roomyL_take, Hyl.out] at hAd
  have hfd := ((hR.keep hF1 (by simp)).keep (Fr.drew [] w1) (by simp)).feed (Nat.zero_le _) ((Fr.drew [] w1).bs hAd (by simp)) (c := xn + 70) (fun k hk hk2 => by
    rw [mem_blkL_some] at hk
    have h1 := hR.lt k hk2
    omega) (by omega)
  have Hfd := Lib.hid hfd; clear hfd
  clear hk1
  go_wp2_with fail
  refine region_call 9 (by kernel_rfl) (by kernel_rfl) ?_
  simp only [List.take_succ_cons, List.take_zero, List.drop_succ_cons, List.drop_zero]
  repeat (go_big_quiet_step (fail))
  refine wpQuiet_nil ?_
  go_wp2_with (go_at_call 19; go_loud (refine Hfd.out.mono ?_); rintro e w2 ⟨rfl, ao2, hR2, hF2, hN2⟩)
  refine wpQuiet_nil ?_
  have hF12 : Fr (r :: blkL ao) w1 w2 := (Fr.drew _ w1).trans hF2
  have hnb : ∀ k ∈ r :: blkL ao, k < w.heap.size := hR.lt
  have hw1 := hF1.size
  have n0 : w.heap.size ∉ r :: blkL ao := fun h => by have := hnb _ h; omega
  have n1 : w.heap.size + 1 ∉ r :: blkL ao := fun h => by have := hnb _ h; omega
  have hb1 := hF12.cell hb1 n0
  have e0 := hF12.cell e0 hs
  have e1 := hF12.cell e1 hs
  have g0 := hF12.free (hF1.cell c0 (by simp)) g0 hs
  have g1 := hF12.free (hF1.cell c1 (by simp)) g1 hs
  have hxno : 0 < xn → ∀ k ∈ blkL xo, k ∉ r :: blkL ao := fun hp k hk hk2 => hdis hp k hk (by simp only [foot, List.mem_cons, List.mem_append] at hk2 ⊢; rcases hk2 with h | h <;> simp [h])
  have hy2 := hF12.bs0 hy1' hxno
  have hB2 := hF12.bs (hF1.bs hB (by simp)) (fun k hk hk2 => hd k hk (by simp only [List.mem_cons] at hk2 ⊢; exact .inr hk2))
  have hA2 := hF12.own hA1 (fun k hk => by rw [mem_blkL_some] at hk; subst hk; exact n1)
  have hlh := hB.1
  have hrf := refFeed_any w2.drew ho xo hn xn hc xc held ys ((Fr.drew [] w2).bs hB2 (by simp)) ((Fr.drew [] w2).bs hy2 (by simp)) (by omega) (by omega)
  have Hrf := Lib.hid hrf; clear hrf
  have E1 := Lib.hid e1
  have G1 := Lib.hid g1
  clear hlh hF2 Hfd
  go_wp2_with fail
  refine any_start (by kernel_rfl) ?_
  refine any_take [0] (by kernel_rfl) ?_
  simp only [opsAt, List.getElem?_toArray, List.getElem?_cons_zero]
  repeat (go_big_quiet_step (fail))
  refine wpQuiet_nil ?_
  refine any_still [1, 2, 3, 4, 5, 6] (by kernel_rfl) ?_
  simp only [opsAt, List.getElem?_toArray, List.getElem?_cons_zero, List.getElem?_cons_succ]
  repeat (go_big_quiet_step (fail))
  refine wpQuiet_nil ?_
  refine any_one 7 (by kernel_rfl) ?_
  simp only [opsAt, List.getElem?_toArray, List.getElem?_cons_zero, List.getElem?_cons_succ]
  go_wp2_with (go_at_call 23; go_loud (refine Hrf.out.mono ?_); rintro e w3 ⟨ro, rk, rc, rfl, hO3, hk3⟩; have e0 := Kp.cell hk3 e0; have e1 := Kp.cell hk3 e1; have g1 := Fr.free (Fr.of_kp hk3) (p := ⟨s, 1, none⟩) E1.out (f := false) G1.out (by simp); have hb1 := Kp.cell hk3 hb1)
  refine any_take [8, 9] (by kernel_rfl) ?_
  simp only [opsAt, List.getElem?_toArray, List.getElem?_cons_zero, List.getElem?_cons_succ]
  repeat (go_big_quiet_step (fail))
  refine wpQuiet_nil ?_
  refine any_one 10 (by kernel_rfl) ?_
  simp only [opsAt, List.getElem?_toArray, List.getElem?_cons_zero, List.getElem?_cons_succ]
  go_wp2_with fail
  refine any_end (by kernel_rfl) ?_
  go_wp2_with fail
  generalize hW : w3.setCell ⟨s, 1, none⟩ (.slice ro rk rc) = w4
  have hF3 : Fr [s] w3 w4 := hW ▸ Fr.set w3 ⟨s, 1, none⟩ _
  have hF23 : Fr [] w2 w3 := (Fr.drew [] w2).trans (Fr.of_kp hk3)
  have n2 : w.heap.size + 1 ∉ [s] := fun h => by simp at h; omega
  have hb1' := hF3.cell hb1 (fun h => by simp at h; omega)
  have hA4 := hF3.own (hF23.own hA2 (by simp)) (fun k hk hk2 => by rw [mem_blkL_some] at hk; subst hk; exact n2 hk2)
  have hy4 := hF3.bs0 (hF23.bs hy2 (by simp)) (fun hp k hk hk2 => hdis hp k hk (by simp only [List.mem_singleton] at hk2; simp [foot, hk2]))
  clear e0 e1 g0 g1 hb1 hk3 E1 G1 Hrf hF3 hA2 hy2 hB2 hA1 hy1' hAd
  (with_reducible refine (stands_kp w4 _ xo _ xn _ xc ys hA4.bs hy4).mono ?_)
  rintro e w5 ⟨rfl, hk5⟩
  have hA5 := hA4.keep hk5
  have hF45 := Fr.of_kp hk5
  clear hA4 hy4 hk5 hb1'
  go_wp2_with fail
  go_loopw [7] (fun i wr => ∃ (k : Nat) (zs : List Value), k ≤ xn + 70 ∧ i = .int .i64 k ∧ Own wr (w.heap.size + 1) 5 1 (some ⟨w.heap.size + 1, 0, none⟩) (xn + 70) (xn + 70) zs ∧ zs.length = xn + 70 ∧ Fr [w.heap.size + 1] w4 wr) (fun i _ => xn + 70 - (intOf i).toNat)
  case atStart => exact ⟨0, _, by omega, rfl, hA5, by rw [List.length_map, roomyL_length, Hyl.out], hF45.mono (by simp)⟩
  case round =>
    obtain ⟨k, zs, hk, rfl, hro, hzl, hfr⟩ := hrel
    by_cases hlt : k < xn + 70
    · obtain ⟨u, hu⟩ : ∃ u, wr.cell? ⟨w.heap.size + 1, k, none⟩ = some u := by
        rw [hro.cell k (by omega)]
        exact ⟨_, List.getElem?_eq_getElem (by omega)⟩
      have hf := hro.free k
      go_wp2
      go_roundw
      case rel =>
        exact ⟨k + 1, zs.set k (.int .u8 153), by omega, by go_num, hro.store k _, by simpa using hzl, hfr.trans (Fr.set wr ⟨w.heap.size + 1, k, none⟩ _)⟩
      case measure => simp [intOf]; omega
    · go_wp2
      go_ret
      subst hW
      have HM := hP.made hF1 hR2 hF12 hN2 hO3.bs hO3.cap (fun k hk => ⟨.inr (hO3.lt k (mem_blkL.1 hk)).1, (hO3.lt k (mem_blkL.1 hk)).2⟩) hF23 hfr (fun k hk => by simp at hk; omega)
      exact ⟨rfl, ao2, ro, by simpa [heldStep] using HM⟩
set_option maxHeartbeats 4000000 in
theorem Pr.next_no {w : World} {s r : Nat} {ao ho : Option Addr} {held : List UInt8} {T : Nat} (h : Pr w s r ao ho held T) (xo : Option Addr) (xn xc : Nat) (ys : List UInt8) (hT : T ≤ 1000000) (hnx : nextL held = none) :
    Calls Tryd.prog 17 #[.pointer (some ⟨s, 0, none⟩), .agg #[.int .i64 2, .slice xo xn xc]] w (StepPost w s r ao ho held T 2 ys) := by
  have hP := h
  obtain ⟨hn, hc, c0, c1, f0, f1, hR, hB, hh, hlt, hs, hd⟩ := h
  have hsw : s < w.heap.size := World.block_lt_of_cell? w _ c0
  have hrw : r < w.heap.size := hR.lt r (by simp)
  go_enter Tryd.func17, Tryd.ntmps17
  go_wp2_with fail
  have hF1 : Fr [] w (w.alloc (.cells #[.int .i64 2, .slice xo xn xc] 46)) := Fr.new [] _ _
  generalize w.alloc (.cells #[.int .i64 2, .slice xo xn xc] 46) = w1 at hF1 ⊢
  have e0 := hF1.cell c0 (by simp)
  have e1 := hF1.cell c1 (by simp)
  have g1 := hF1.free c1 f1 (by simp)
  (with_reducible refine ((hR.keep hF1 (by simp)).next_no (by omega) hnx).mono ?_)
  rintro e w2 ⟨rfl, hR2, hF2⟩
  have e1 := hF2.cell e1 (by simp)
  have g1 := hF2.free (hF1.cell c1 (by simp)) g1 (by simp)
  have hB2 := hF2.bs (hF1.bs hB (by simp)) (by simp)
  have hrn := refNext_any w2 ho hn hc held hB2 hh
  unfold RefNextPost at hrn
  rw [hnx] at hrn
  go_wp2_with fail
  (with_reducible refine hrn.mono ?_)
  rintro e w3 ⟨hk3, rfl⟩
  have e1 := Kp.cell hk3 e1
  have g1 := (Fr.of_kp hk3).free (hF2.cell (hF1.cell c1 (by simp)) (by simp)) g1 (by simp)
  have hB3 := Kp.bs hk3 hB2
  have hF4 := Fr.new [] w3 (.cells #[.slice ho hn hc] 41)
  have g4 := hF4.free e1 g1 (by simp)
  have e4 := hF4.cell e1 (by simp)
  go_wp2_with fail
  have HM := fun w5 X => hP.made (w5 := w5) (X := X) (rk := hn) (rc := hc) hF1 hR2 (hF2.mono (by simp)) (fun k hk => .inl hk) (hF4.bs hB3 (by simp)) hh (fun k hk => ⟨.inl hk, by have := hlt k hk; have := hF1.size; have := hF2.size; have := hk3.size; have := hF4.size; omega⟩) ((Fr.of_kp hk3).trans hF4)
  generalize (w3.alloc (.cells #[.slice ho hn hc] 41)).setCell ⟨s, 1, none⟩ (.slice ho hn hc) = w5 at HM ⊢
  (with_reducible refine (same_kp w5 none none 0 0 0 0 [] (Bs.zero _ _) (Bs.zero _ _)).mono ?_)
  rintro e w6 ⟨rfl, hk6⟩
  go_wp2_with fail
  go_ret
  obtain ⟨h1, h2, h3⟩ := HM w6 [] (Fr.of_kp hk6) (by simp)
  exact ⟨rfl, ao, ho, by simpa [heldStep, hnx] using h1.up (by omega), h2, h3⟩

set_option maxHeartbeats 4000000 in
theorem Pr.next_yes {w : World} {s r : Nat} {ao ho : Option Addr} {held : List UInt8} {T : Nat} (h : Pr w s r ao ho held T) (xo : Option Addr) (xn xc : Nat) (ys : List UInt8) (hT : T ≤ 1000000) {m rest : List UInt8} (hnx : nextL held = some (m, rest)) :
    Calls Tryd.prog 17 #[.pointer (some ⟨s, 0, none⟩), .agg #[.int .i64 2, .slice xo xn xc]] w (StepPost w s r ao ho held T 2 ys) := by
  have hP := h
  obtain ⟨hn, hc, c0, c1, f0, f1, hR, hB, hh, hlt, hs, hd⟩ := h
  have hsw : s < w.heap.size := World.block_lt_of_cell? w _ c0
  have hrw : r < w.heap.size := hR.lt r (by simp)
  have hsr : s ∉ [r] := fun hx => hs (by simp only [List.mem_singleton] at hx; simp [hx])
  go_enter Tryd.func17, Tryd.ntmps17
  go_wp2_with fail
  have hF1 : Fr [] w (w.alloc (.cells #[.int .i64 2, .slice xo xn xc] 46)) := Fr.new [] _ _
  generalize w.alloc (.cells #[.int .i64 2, .slice xo xn xc] 46) = w1 at hF1 ⊢
  have e0 := hF1.cell c0 (by simp)
  have e1 := hF1.cell c1 (by simp)
  have g1 := hF1.free c1 f1 (by simp)
  (with_reducible refine ((hR.keep hF1 (by simp)).next_yes (by omega) hnx).mono ?_)
  rintro e w2 ⟨no, ncap, rfl, hO2, hR2, hF2⟩
  have e0 := hF2.cell e0 hsr
  have e1 := hF2.cell e1 hsr
  have g1 := hF2.free (hF1.cell c1 (by simp)) g1 hsr
  have hB2 := hF2.bs (hF1.bs hB (by simp)) (fun k hk hk2 => hd k hk (by simp only [List.mem_singleton] at hk2; simp [hk2]))
  have hrn := refNext_any w2 ho hn hc held hB2 hh
  unfold RefNextPost at hrn
  rw [hnx] at hrn
  go_wp2_with fail
  (with_reducible refine hrn.mono ?_)
  rintro e w3 ⟨hk3, ro, rcap, bo, bk, bc, rfl, hm3, hB3, hbo, hbc, hlo⟩
  have e0 := Kp.cell hk3 e0
  have e1 := Kp.cell hk3 e1
  have g1 := (Fr.of_kp hk3).free (hF2.cell (hF1.cell c1 (by simp)) hsr) g1 (by simp)
  have hF4 := Fr.new [] w3 (.cells #[.slice bo bk bc] 41)
  have g4 := hF4.free e1 g1 (by simp)
  have e4 := hF4.cell e1 (by simp)
  go_wp2_with fail
  have z1 := hF1.size
  have z2 := hF2.size
  have z3 := hk3.size
  have z4 := hF4.size
  have HM := fun w5 X => hP.made (w5 := w5) (X := X) (rk := bk) (rc := bc) hF1 hR2 (hF2.mono (by simp)) (fun k hk => .inl hk) (hF4.bs hB3 (by simp)) hbc (fun k hk => ⟨.inl (hbo k hk), by have := hlt k (hbo k hk); omega⟩) ((Fr.of_kp hk3).trans hF4)
  have hF5 := Fr.set (w3.alloc (.cells #[.slice bo bk bc] 41)) ⟨s, 1, none⟩ (.slice bo bk bc)
  have hm5 := hF5.bs (hF4.bs hm3 (by simp)) (fun k hk hk2 => by have := hlo k hk; simp only [List.mem_singleton] at hk2; omega)
  have hn5 := hF5.bs (hF4.bs (Kp.bs hk3 hO2.bs) (by simp)) (fun k hk hk2 => by have := (hO2.lt k (mem_blkL.1 hk)).1; simp only [List.mem_singleton] at hk2; omega)
  generalize (w3.alloc (.cells #[.slice bo bk bc] 41)).setCell ⟨s, 1, none⟩ (.slice bo bk bc) = w5 at HM hm5 hn5 ⊢
  (with_reducible refine (same_kp w5 _ _ _ _ _ _ _ hn5 hm5).mono ?_)
  rintro e w6 ⟨rfl, hk6⟩
  go_wp2_with fail
  go_ret
  obtain ⟨h1, h2, h3⟩ := HM w6 [] (Fr.of_kp hk6) (by simp)
  exact ⟨rfl, ao, bo, by simpa [heldStep, hnx] using h1.up (by omega), h2, h3⟩

theorem Pr.step {w : World} {s r : Nat} {ao ho : Option Addr} {held : List UInt8} {T : Nat} (h : Pr w s r ao ho held T) (kind : Int) (xo : Option Addr) (xn xc : Nat) (ys : List UInt8) (hy : Bs w xo xn ys) (hT : T + ys.length ≤ 1000000)
    (hlen : held.length ≤ T) (hdis : 0 < xn → ∀ k ∈ blkL xo, k ∉ foot s r ao ho) :
    Calls Tryd.prog 17 #[.pointer (some ⟨s, 0, none⟩), .agg #[.int .i64 kind, .slice xo xn xc]] w (StepPost w s r ao ho held T kind ys) := by
  by_cases k1 : kind = 1
  · subst k1; exact h.feed xo xn xc ys hy hT hlen hdis
  · by_cases k2 : kind = 2
    · subst k2
      cases hnx : nextL held with
      | none => exact h.next_no xo xn xc ys (by omega) hnx
      | some p => exact h.next_yes xo xn xc ys (by omega) (m := p.1) (rest := p.2) hnx
    · exact h.held (by omega) kind k1 k2 xo xn xc ys
theorem Pr.len {w : World} {s r : Nat} {ao ho : Option Addr} {held : List UInt8} {T : Nat} (h : Pr w s r ao ho held T) : held.length ≤ T := by
  obtain ⟨hn, hc, c0, c1, f0, f1, ⟨n, cap, fr, all, a1, a2, a3, a4, a5, a6, a7, a8, a9⟩, hB, hh, hlt, hs, hd⟩ := h
  have := a5.bs.1
  rw [a8, List.length_drop]; omega

/-- A call on a pair that was made behind w0, with what lay in w0. -/
theorem Pr.go {w0 w : World} {s r : Nat} {ao ho : Option Addr} {held : List UInt8} {T : Nat} (h : Pr w s r ao ho held T) (k0 : Kp w0 w) (hf : ∀ k ∈ foot s r ao ho, w0.heap.size ≤ k) (kind : Int) (xo : Option Addr) (xn xc : Nat) (ys : List UInt8) (hy : Bs w0 xo xn ys) (hT : T + ys.length ≤ 1000000) :
    Calls Tryd.prog 17 #[.pointer (some ⟨s, 0, none⟩), .agg #[.int .i64 kind, .slice xo xn xc]] w fun e w' => e = .returned (.bool true) ∧ ∃ ao' ho', Pr w' s r ao' ho' (heldStep kind ys held) (T + ys.length) ∧ Fr (foot s r ao ho) w w' ∧ Kp w0 w' ∧ (∀ k ∈ foot s r ao' ho', k ∈ foot s r ao ho ∨ w.heap.size ≤ k) ∧ (∀ k ∈ foot s r ao' ho', w0.heap.size ≤ k) := by
  refine (h.step kind xo xn xc ys (Kp.bs k0 hy) hT h.len (fun hp k hk hk2 => ?_)).mono ?_
  · obtain ⟨b, off, rfl, hb, _⟩ := hy.at 0 hp
    rw [mem_blkL_some] at hk
    have := hf k hk2
    omega
  · rintro e w' ⟨rfl, ao', ho', hP, hF, hN⟩
    exact ⟨rfl, ao', ho', hP, hF, ((Fr.of_kp k0).step hF (fun j hj => .inr (hf j hj))).kp, hN, fun k hk => (hN k hk).elim (hf k) (fun hk2 => Nat.le_trans k0.size hk2)⟩

/-- A new pair. -/
theorem Pr.new {w : World} {b : Nat} (hb : b = w.heap.size) (e1 e2 : TypeId) : Pr ((w.alloc (.cells #[.slice none 0 0, .int .i64 0] e1)).alloc (.cells #[.pointer (some ⟨b, 0, none⟩), .slice none 0 0] e2)) (b + 1) b none none [] 0 := by
  have hR := (Rdr.new w 0 b e1 hb).keep (Fr.new [] _ (.cells #[.pointer (some ⟨b, 0, none⟩), .slice none 0 0] e2)) (by simp)
  subst hb
  refine ⟨0, 0, ?_, ?_, ?_, ?_, hR, Bs.zero _ _, Nat.le_refl _, by simp [blkL, blk], by simp [blkL, blk], by simp [blkL, blk]⟩
  · rw [World.cell?_alloc_at _ _ _ _ (by simp)]; rfl
  · rw [World.cell?_alloc_at _ _ _ _ (by simp)]; rfl
  · exact World.frozen?_alloc_at _ _ _ _ (by simp)
  · exact World.frozen?_alloc_at _ _ _ _ (by simp)
end Go.Proofs.YtkpdbdlkihgofaaDoor
