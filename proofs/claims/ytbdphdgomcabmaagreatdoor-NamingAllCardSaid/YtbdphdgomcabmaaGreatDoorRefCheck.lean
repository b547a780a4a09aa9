/- The document's check. Condition: the pattern lies there (Is, Lns). -/
import Derived.Test.YtbdphdgomcabmaaGreatDoorNa3
import Derived.Test.YtbdphdgomcabmaaGreatDoorNa4
import Derived.Test.YtbdphdgomcabmaaGreatDoorNa1
namespace Go.Proofs.YtbdphdgomcabmaaGreatDoor
open Go.RowKit

set_option maxHeartbeats 2000000 in
theorem exec_load80 {w : World} {b : Nat} {X : Nat → Bool} (h : SnAt w b X) {ρ : Operand → Value} {x : Operand} (hx : ρ x = .pointer (some ⟨b, 0, none⟩)) {o : Oper} (ho : o.op = .load 117 x) : (execOp ρ o).run Tryz.prog w = .ok (.value (snV X)) w := by
  obtain ⟨x0, x1, x2, x3, x4, x5, x6, x7, x8, x9, x10, x11⟩ := h.cells
  clear h
  unfold snV
  simp only [execOp, ho, hx]
  go_simp

/-- What the region reads. -/
def Held (bx bl : Nat) (Y : Nat → Bool) (f : Int) (ta : Option Addr) (tn tc tb off : Nat) (t : Int) (w : World) : Prop :=
  SnAt w bx Y ∧ w.cell? ⟨bl, 0, none⟩ = some (iv f) ∧ w.cell? ⟨bl, 1, none⟩ = some (.slice ta tn tc) ∧ w.cell? ⟨tb, off, none⟩ = some (iv t)
theorem Held.fr {bx bl : Nat} {Y : Nat → Bool} {f : Int} {ta : Option Addr} {tn tc tb off : Nat} {t : Int} {Z : List Nat} {w w' : World} (h : Held bx bl Y f ta tn tc tb off t w) (k : Fr Z w w') (h1 : bx ∉ Z) (h2 : bl ∉ Z) (h3 : tb ∉ Z) : Held bx bl Y f ta tn tc tb off t w' :=
  ⟨h.1.fr k h1, k.cell h.2.1 h2, k.cell h.2.2.1 h2, k.cell h.2.2.2 h3⟩
theorem Held.kp {bx bl : Nat} {Y : Nat → Bool} {f : Int} {ta : Option Addr} {tn tc tb off : Nat} {t : Int} {w w' : World} (h : Held bx bl Y f ta tn tc tb off t w) (k : Kp w w') : Held bx bl Y f ta tn tc tb off t w' := h.fr (Fr.of_kp k) (by simp) (by simp) (by simp)
theorem toksR_at (X : Nat → Bool) (f : Int) (ts : List Int) (j : Nat) (h : j < ts.length) : toksR X f (ts.drop j) = if (tokR X f ts[j]).2 = 0 then toksR (tokR X f ts[j]).1 f (ts.drop (j + 1)) else ((tokR X f ts[j]).2, X) := by
  rw [drop_cons ts j h, toksR]
theorem lsR_at (X : Nat → Bool) (ls : List Ln) (k : Nat) (h : k < ls.length) : lsR X (ls.drop k) = if (toksR X ls[k].1 ls[k].2).1 = 0 then (if safeR (toksR X ls[k].1 ls[k].2).2 ls[k].1 then lsR (toksR X ls[k].1 ls[k].2).2 (ls.drop (k + 1)) else (12, X)) else ((toksR X ls[k].1 ls[k].2).1, X) := by
  rw [drop_cons ls k h, lsR]

theorem chk_tok {b0 b1 : List Int} {ls : List Ln} {X Y Y' : Nat → Bool} {k j e0 : Nat} {f : Int} {ts : List Int}
    (hc : checkR b0 b1 ls = if (lsR (begunR b0 b1) ls).1 = 0 then (if !safeR (lsR (begunR b0 b1) ls).2 0 || (!oneWay ls && !safeR (lsR (begunR b0 b1) ls).2 1) then 12 else 0) else (lsR (begunR b0 b1) ls).1)
    (h1 : lsR (begunR b0 b1) ls = lsR X (ls.drop k)) (h2 : lsR X (ls.drop k) = if (toksR X f ts).1 = 0 then (if safeR (toksR X f ts).2 f then lsR (toksR X f ts).2 (ls.drop (k + 1)) else (12, X)) else ((toksR X f ts).1, X))
    (h3 : toksR X f ts = toksR Y f (ts.drop j)) (h4 : toksR Y f (ts.drop j) = if (Y', e0).2 = 0 then toksR (Y', e0).1 f (ts.drop (j + 1)) else ((Y', e0).2, Y)) (he : ¬ e0 = 0) : checkR b0 b1 ls = e0 := by
  have h5 : toksR X f ts = (e0, Y) := by rw [h3, h4]; exact if_neg he
  rw [h5] at h2
  have h6 : lsR (begunR b0 b1) ls = (e0, X) := by rw [h1, h2]; exact if_neg he
  rw [hc, h6]
  exact if_neg he
theorem chk_next {b0 b1 : List Int} {ls : List Ln} {X Y : Nat → Bool} {k : Nat} {f : Int} {ts : List Int}
    (h1 : lsR (begunR b0 b1) ls = lsR X (ls.drop k)) (h2 : lsR X (ls.drop k) = if (toksR X f ts).1 = 0 then (if safeR (toksR X f ts).2 f then lsR (toksR X f ts).2 (ls.drop (k + 1)) else (12, X)) else ((toksR X f ts).1, X))
    (h3 : toksR X f ts = toksR Y f []) (hs : safeR Y f = true) : lsR (begunR b0 b1) ls = lsR Y (ls.drop (k + 1)) := by
  have h5 : toksR X f ts = (0, Y) := by rw [h3]; rfl
  rw [h5] at h2
  rw [h1, h2]
  simp [hs]
theorem chk_unsafe {b0 b1 : List Int} {ls : List Ln} {X Y : Nat → Bool} {k : Nat} {f : Int} {ts : List Int}
    (hc : checkR b0 b1 ls = if (lsR (begunR b0 b1) ls).1 = 0 then (if !safeR (lsR (begunR b0 b1) ls).2 0 || (!oneWay ls && !safeR (lsR (begunR b0 b1) ls).2 1) then 12 else 0) else (lsR (begunR b0 b1) ls).1)
    (h1 : lsR (begunR b0 b1) ls = lsR X (ls.drop k)) (h2 : lsR X (ls.drop k) = if (toksR X f ts).1 = 0 then (if safeR (toksR X f ts).2 f then lsR (toksR X f ts).2 (ls.drop (k + 1)) else (12, X)) else ((toksR X f ts).1, X))
    (h3 : toksR X f ts = toksR Y f []) (hs : safeR Y f = false) : checkR b0 b1 ls = 12 := by
  have h5 : toksR X f ts = (0, Y) := by rw [h3]; rfl
  rw [h5] at h2
  have h6 : lsR (begunR b0 b1) ls = (12, X) := by rw [h1, h2]; simp [hs]
  rw [hc, h6]
  rfl

set_option maxRecDepth 100000 in
set_option maxHeartbeats 8000000 in
theorem refCheck_any (w : World) (nm : ByteArray) (a0 a1 al : Option Addr) (n0 c0 n1 c1 nl cl : Nat) (b0 b1 : List Int) (ls : List Ln) (h0 : Is w a0 n0 b0) (h1 : Is w a1 n1 b1) (hl : Lns w al nl ls) :
    Calls Tryz.prog 48 #[.agg #[.string nm, .slice a0 n0 c0, .slice a1 n1 c1, .slice al nl cl]] w fun e w' => e = .returned (iv (checkR b0 b1 ls : Nat)) ∧ Kp w w' := by
  have hnl := hl.2.1
  have Hll := Lib.hid hl.1
  have hk1 := Kp.new w (.cells #[.string nm, .slice a0 n0 c0, .slice a1 n1 c1, .slice al nl cl] 26)
  have hB := Bx.new w nm a0 a1 al n0 c0 n1 c1 nl cl
  obtain ⟨wa, hwa⟩ : ∃ wa, wa = w.alloc (.cells #[.string nm, .slice a0 n0 c0, .slice a1 n1 c1, .slice al nl cl] 26) := ⟨_, rfl⟩
  obtain ⟨bb, hbb⟩ : ∃ bb, bb = w.heap.size := ⟨_, rfl⟩
  rw [← hwa] at hk1 hB
  rw [← hbb] at hB
  have hI0 := hk1.is h0
  have hI1 := hk1.is h1
  have hIl := hk1.lns hl
  have Hsh := Lib.hid (shapedR_any wa nm a0 a1 al n0 c0 n1 c1 nl cl b0 b1 ls hI0 hI1 hIl)
  have Hbg := Lib.hid (fun w' (k : Kp wa w') => begin_any w' nm a0 a1 al n0 c0 n1 c1 nl cl b0 b1 (k.is hI0) (k.is hI1))
  have Hsf := Lib.hid (fun w' X f (hf : f = 0 ∨ f = 1) => safeR_any w' X f hf)
  have How := Lib.hid (fun w' (k : Kp wa w') => oneWay_any w' nm a0 a1 al n0 c0 n1 c1 nl cl ls (k.lns hIl))
  have Hk1 := Lib.hid hk1
  have HB := Lib.hid hB
  obtain ⟨y0, y1, y2, y3⟩ := hB
  clear h0 h1 hl hI0 hI1 hk1
  go_enter Tryz.func48, Tryz.ntmps48
  go_upto_region 1 with fail
  rw [← hwa, ← hbb]
  clear hwa hbb
  go_wp2_with fail
  (with_reducible refine Hsh.out.mono ?_)
  rintro e w1 ⟨rfl, hk1⟩
  clear y0 y1 y2 y3
  obtain ⟨y0, y1, y2, y3⟩ := HB.out.kp hk1
  cases hs : shapedL b0 b1 ls with
  | false =>
    have Hc := Lib.hid (show checkR b0 b1 ls = 9 by unfold checkR; rw [hs]; rfl)
    clear hs
    go_wp2_with fail
    go_ret
    exact ⟨by rw [Hc.out]; rfl, Kp.trans Hk1.out hk1⟩
  | true =>
    have Hmem := Lib.hid (shapedL_mem hs).2.2.2
    have Hc := Lib.hid (show checkR b0 b1 ls = if (lsR (begunR b0 b1) ls).1 = 0 then (if !safeR (lsR (begunR b0 b1) ls).2 0 || (!oneWay ls && !safeR (lsR (begunR b0 b1) ls).2 1) then 12 else 0) else (lsR (begunR b0 b1) ls).1 by unfold checkR; rw [hs]; rfl)
    clear hs
    go_wp2_with fail
    (with_reducible refine (Hbg.out w1 hk1).mono ?_)
    rintro e w2 ⟨rfl, hk2⟩
    have hk12 := Kp.trans hk1 hk2
    unfold snV
    go_upto_region 4 with fail
    have hk3 := Kp.new w2 (.cells #[.bool (begunR b0 b1 0), .bool (begunR b0 b1 1), .bool (begunR b0 b1 2), .bool (begunR b0 b1 3), .bool (begunR b0 b1 4), .bool (begunR b0 b1 5), .bool (begunR b0 b1 6), .bool (begunR b0 b1 7), .bool (begunR b0 b1 8), .bool (begunR b0 b1 9), .bool (begunR b0 b1 10), .bool (begunR b0 b1 11)] 117)
    have hX := SnAt.new w2 (begunR b0 b1)
    generalize w2.alloc (.cells #[.bool (begunR b0 b1 0), .bool (begunR b0 b1 1), .bool (begunR b0 b1 2), .bool (begunR b0 b1 3), .bool (begunR b0 b1 4), .bool (begunR b0 b1 5), .bool (begunR b0 b1 6), .bool (begunR b0 b1 7), .bool (begunR b0 b1 8), .bool (begunR b0 b1 9), .bool (begunR b0 b1 10), .bool (begunR b0 b1 11)] 117) = w3 at hk3 hX ⊢
    obtain ⟨bx, hbx⟩ : ∃ bx, bx = w2.heap.size := ⟨_, rfl⟩
    rw [← hbx] at hX ⊢
    have hk13 := Kp.trans hk12 hk3
    clear y0 y1 y2 y3
    have hB3 := HB.out.kp hk13
    have Hbx := Lib.hid (show wa.heap.size ≤ bx by have := hk12.size; omega)
    have hxl := hX.lt
    have hbl := HB.out.lt
    clear hbx hk1 hk2 hk3
    go_wp2_with fail
    go_loopw [4] (fun i wr => ∃ (k : Nat) (X : Nat → Bool), k ≤ nl ∧ i = .int .i64 (k : Nat) ∧ Fr [bx] w3 wr ∧ SnAt wr bx X ∧ lsR (begunR b0 b1) ls = lsR X (ls.drop k)) (fun i _ => nl - (intOf i).toNat)
    case atStart => exact ⟨0, begunR b0 b1, by omega, rfl, Fr.refl _ _, hX, rfl⟩
    case round =>
      obtain ⟨k, X, hk, rfl, hF, hS, hls⟩ := hrel
      have Hls := Lib.hid hls; clear hls
      rename World => wr0
      obtain ⟨y0, y1, y2, y3⟩ := hB3.fr hF (by have := Hbx.out; simp; omega)
      have hkr : Kp wa wr0 := ((Fr.of_kp hk13).step hF (fun i hi => .inr (by have := Hbx.out; simp at hi; omega))).kp
      by_cases hlt : k < nl
      · have hkl : k < ls.length := by rw [Hll.out]; exact hlt
        obtain ⟨b, off, tp, tn, tc, rfl, hc1, hc2, hI, htn⟩ := hIl.2.2 k hkl
        replace hc1 := hkr.cell hc1
        replace hc2 := hkr.cell hc2
        have hme := Hmem.out k hkl
        have hat := lsR_at X ls k hkl
        generalize ls[k]'hkl = l at hc1 hI hme hat
        obtain ⟨f, ts⟩ := l
        simp only at hc1 hI hme hat
        have HIa := Lib.hid hI
        replace hI := hkr.is hI
        obtain ⟨hf, htp, hts⟩ := hme
        have HatL := Lib.hid hat
        have Hts := Lib.hid hts
        have Hf := Lib.hid hf
        clear hat hts hf
        go_upto_region 8 with fail
        have hk4 := Kp.new wr0 (.cells #[iv f, .slice tp tn tc] 45)
        have q0 : (wr0.alloc (.cells #[iv f, .slice tp tn tc] 45)).cell? ⟨wr0.heap.size, 0, none⟩ = some (iv f) := by rw [World.cell?_alloc_at _ _ _ _ rfl]; rfl
        have q1 : (wr0.alloc (.cells #[iv f, .slice tp tn tc] 45)).cell? ⟨wr0.heap.size, 1, none⟩ = some (.slice tp tn tc) := by rw [World.cell?_alloc_at _ _ _ _ rfl]; rfl
        generalize wr0.alloc (.cells #[iv f, .slice tp tn tc] 45) = w4 at hk4 q0 q1 ⊢
        obtain ⟨bl, hbl2⟩ : ∃ bl, bl = wr0.heap.size := ⟨_, rfl⟩
        rw [← hbl2] at q0 q1 ⊢
        have hS4 := hS.kp hk4
        have hbxl : bx < wr0.heap.size := hS.lt
        have hbn : bl ≠ bx := by omega
        have hI4 := hk4.is hI
        have Hk4 := Lib.hid (And.intro hk4 hbl2)
        clear hbl2 hk4 hc1 hc2 y0 y1 y2
        have htl := hI.1
        clear hI hS
        go_wp2_with fail
        go_loopw [6] (fun i wv => ∃ (j : Nat) (Y : Nat → Bool), j ≤ tn ∧ i = .int .i64 (j : Nat) ∧ Fr [bx] w4 wv ∧ SnAt wv bx Y ∧ toksR X f ts = toksR Y f (ts.drop j)) (fun i _ => tn - (intOf i).toNat)
        case atStart => exact ⟨0, X, by omega, rfl, Fr.refl _ _, hS4, rfl⟩
        case round =>
          clear hS4
          obtain ⟨j, Y, hj, rfl, hF4, hS, htk⟩ := hrel
          have Htk := Lib.hid htk; clear htk
          rename World => wv
          have l0 := hF4.cell q0 (by simpa using hbn)
          have l1 := hF4.cell q1 (by simpa using hbn)
          by_cases hjt : j < tn
          · have hjl : j < ts.length := by rw [htl]; exact hjt
            obtain ⟨tb, toff, rfl, _, hcc⟩ := hI4.at j hjt
            have hne := hbn
            have htbx : tb ≠ bx := fun h => by
              obtain ⟨b', o', e', hlt', _⟩ := HIa.out.at j hjt
              cases e'
              have := Hbx.out
              omega
            have tk := hF4.cell (hcc j hjt) (by simpa using htbx)
            have htj := Hts.out j hjl
            have hat := toksR_at Y f ts j hjl
            clear hcc
            generalize ts[j]'hjl = t at tk htj hat
            obtain ⟨ht1, ht7⟩ := htj
            have htok := fun w' => tokR_any w' Y f t Hf.out ht1 ht7
            unfold TokRPost at htok
            rcases hq : tokR Y f t with ⟨Y', e0⟩
            rw [hq] at hat
            simp only [hq] at htok
            have Hat := Lib.hid hat; clear hat
            have Htok := Lib.hid htok; clear htok hq
            obtain ⟨x0, x1, x2, x3, x4, x5, x6, x7, x8, x9, x10, x11⟩ := hS.cells
            have HS := Lib.hid hS
            have hlx := hS.lt
            have hll := World.block_lt_of_cell? wv _ l0
            have hlt' := World.block_lt_of_cell? wv _ tk
            clear hS
            go_upto_region 11 with fail
            refine anyH_start (Held bx bl Y f (some ⟨tb, toff, none⟩) tn tc tb (toff + j) t) (by kernel_rfl) ?_
            have hH : Held bx bl Y f (some ⟨tb, toff, none⟩) tn tc tb (toff + j) t wv := ⟨HS.out, l0, l1, tk⟩
            generalize hwq : wv.drew = wq
            have hkq : Kp wv wq := hwq ▸ (⟨rfl, rfl, rfl, Nat.le_refl _, fun _ _ => rfl⟩ : Kp wv wv.drew)
            replace hH := hH.kp hkq
            have hqs := hkq.size
            clear hwq l0 l1 tk 
            refine anyH_take [1, 3, 5] (by kernel_rfl) hH ?_
            simp only [opsAt, List.getElem?_toArray, List.getElem?_cons_zero, List.getElem?_cons_succ]
            repeat (go_big_quiet_step (fail))
            refine wpQuiet_nil ?_
            refine anyH_load 0 34 (snV Y) rfl rfl (by kernel_rfl) hH (fun w h => exec_load80 h.1 rfl rfl) ?_
            simp only [Act.put, List.setIfInBounds_toArray, List.set_cons_zero, List.set_cons_succ]
            refine anyH_load 2 36 (iv f) rfl rfl (by kernel_rfl) hH (fun w h => exec_load3 h.2.1 rfl rfl) ?_
            simp only [Act.put, List.setIfInBounds_toArray, List.set_cons_zero, List.set_cons_succ]
            refine anyH_load 4 38 (.slice (some ⟨tb, toff, none⟩) tn tc) rfl rfl (by kernel_rfl) hH (fun w h => exec_load22 h.2.2.1 rfl rfl) ?_
            simp only [Act.put, List.setIfInBounds_toArray, List.set_cons_zero, List.set_cons_succ]
            refine anyH_take [6] (by kernel_rfl) hH ?_
            simp only [opsAt, List.getElem?_toArray, List.getElem?_cons_zero, List.getElem?_cons_succ]
            repeat (go_big_quiet_step (fail))
            refine wpQuiet_nil ?_
            refine anyH_load 7 41 (iv t) rfl rfl (by kernel_rfl) hH (fun w h => exec_load3 h.2.2.2 rfl rfl) ?_
            simp only [Act.put, List.setIfInBounds_toArray, List.set_cons_zero, List.set_cons_succ]
            refine anyH_two 8 12 (by kernel_rfl) ?_ ?_
            · simp only [opsAt, List.getElem?_toArray, List.getElem?_cons_zero, List.getElem?_cons_succ]
              go_wp2_with (go_at_call 75; go_loud (refine (Htok.out _).mono ?_); rintro e wc ⟨rfl, hkc⟩)
              refine ⟨hH.kp hkc, ?_⟩
              have hHc := hH.kp hkc
              refine anyH_take [9, 10, 11] (by kernel_rfl) hHc ?_
              simp only [opsAt, List.getElem?_toArray, List.getElem?_cons_zero, List.getElem?_cons_succ]
              repeat (go_big_quiet_step (fail))
              refine wpQuiet_nil ?_
              refine anyH_one 12 (by kernel_rfl) ?_
              simp only [opsAt, List.getElem?_toArray, List.getElem?_cons_zero, List.getElem?_cons_succ]
              go_wp2_with fail
              refine ⟨hHc.kp (Kp.new _ _), ?_⟩
              have hHz := hHc.kp (Kp.new wc (.cells #[.bool false, .bool false, .bool false, .bool false, .bool false, .bool false, .bool false, .bool false, .bool false, .bool false, .bool false, .bool false] 117))
              have hz := SnAt.zero wc
              have hkz := Kp.trans hkc (Kp.new wc (.cells #[.bool false, .bool false, .bool false, .bool false, .bool false, .bool false, .bool false, .bool false, .bool false, .bool false, .bool false, .bool false] 117))
              have hsz := hkc.size
              obtain ⟨bz, hbz⟩ : ∃ bz, bz = wc.heap.size := ⟨_, rfl⟩
              generalize wc.alloc (.cells #[.bool false, .bool false, .bool false, .bool false, .bool false, .bool false, .bool false, .bool false, .bool false, .bool false, .bool false, .bool false] 117) = wz at hHz hz hkz ⊢
              rw [← hbz] at hz ⊢
              have hbq : wq.heap.size ≤ bz := by omega
              clear hbz hsz
              have hzs := hz.lt
              have hst := hz.store Y'
              obtain ⟨z0, z1, z2, z3, z4, z5, z6, z7, z8, z9, z10, z11⟩ := hz.cells
              obtain ⟨g0, g1, g2, g3, g4, g5, g6, g7, g8, g9, g10, g11⟩ := hz.free
              clear hz
              unfold snV
              refine anyH_one 13 (by kernel_rfl) ?_
              simp only [opsAt, List.getElem?_toArray, List.getElem?_cons_zero, List.getElem?_cons_succ]
              go_wp2_with fail
              refine ⟨hHz.fr hst.2 (by simp; omega) (by simp; omega) (by simp; omega), ?_⟩
              have hHw := hHz.fr hst.2 (by simp; omega) (by simp; omega) (by simp; omega)
              generalize ((((((((((((wz.setCell ⟨bz, 0, none⟩ (.bool (Y' 0))).setCell ⟨bz, 1, none⟩ (.bool (Y' 1))).setCell ⟨bz, 2, none⟩ (.bool (Y' 2))).setCell ⟨bz, 3, none⟩ (.bool (Y' 3))).setCell ⟨bz, 4, none⟩ (.bool (Y' 4))).setCell ⟨bz, 5, none⟩ (.bool (Y' 5))).setCell ⟨bz, 6, none⟩ (.bool (Y' 6))).setCell ⟨bz, 7, none⟩ (.bool (Y' 7))).setCell ⟨bz, 8, none⟩ (.bool (Y' 8))).setCell ⟨bz, 9, none⟩ (.bool (Y' 9))).setCell ⟨bz, 10, none⟩ (.bool (Y' 10))).setCell ⟨bz, 11, none⟩ (.bool (Y' 11))) = wst at hst hHw ⊢
              clear z0 z1 z2 z3 z4 z5 z6 z7 z8 z9 z10 z11 g0 g1 g2 g3 g4 g5 g6 g7 g8 g9 g10 g11 hHz
              refine anyH_take [14] (by kernel_rfl) hHw ?_
              simp only [opsAt, List.getElem?_toArray, List.getElem?_cons_zero, List.getElem?_cons_succ]
              repeat (go_big_quiet_step (fail))
              refine wpQuiet_nil ?_
              refine anyH_end (by kernel_rfl) ?_
              have hFw : Fr [bx] w4 wst := (hF4.trans ((Fr.of_kp (Kp.trans hkq hkz)).mono (by simp))).step hst.2 (fun i hi => .inr (by have := hF4.size; simp at hi; omega))
              have hkf : Kp wa wst := (((Fr.of_kp hkr).trans (Fr.of_kp Hk4.out.1)).step hFw (fun i hi => .inr (by have := Hbx.out; simp at hi; omega))).kp
              by_cases he : e0 = 0
              · subst he
                obtain ⟨u0, u1, u2, u3, u4, u5, u6, u7, u8, u9, u10, u11⟩ := hst.1.cells
                obtain ⟨v0, v1, v2, v3, v4, v5, v6, v7, v8, v9, v10, v11⟩ := hHw.1.cells
                obtain ⟨h0, h1, h2, h3, h4, h5, h6, h7, h8, h9, h10, h11⟩ := hHw.1.free
                have hst2 := hHw.1.store Y'
                have Hfin := Lib.hid (show Fr [bx] w4 _ ∧ SnAt _ bx Y' ∧ toksR X f ts = toksR Y' f (ts.drop (j + 1)) from ⟨hFw.trans hst2.2, hst2.1, by rw [Htk.out, Hat.out]; rfl⟩)
                clear hst2 hHw hst hFw hkf
                go_wp2_with fail
                go_roundw
                case rel => exact ⟨j + 1, Y', by omega, by go_num, Hfin.out.1, Hfin.out.2.1, Hfin.out.2.2⟩
                case measure => simp [intOf]; omega
              · have hb : ((e0 : Int) != 0) = true := by simp; omega
                have hb2 : ¬ ((e0 : Int) = 0) := by omega
                have Hres := Lib.hid (show checkR b0 b1 ls = e0 from chk_tok Hc.out Hls.out HatL.out Htk.out Hat.out he)
                have Hkf := Lib.hid (Kp.trans Hk1.out hkf)
                clear hHw hst hFw hkf
                go_wp2_with fail
                go_ret
                exact ⟨by rw [Hres.out]; rfl, Hkf.out⟩
            · simp only [opsAt, List.getElem?_toArray, List.getElem?_cons_zero, List.getElem?_cons_succ]
              go_wp2_with fail
              refine ⟨hH.kp (Kp.new _ _), ?_⟩
              have hHc := hH.kp (Kp.new wq (.cells #[.bool false, .bool false, .bool false, .bool false, .bool false, .bool false, .bool false, .bool false, .bool false, .bool false, .bool false, .bool false] 117))
              have hz := SnAt.zero wq
              have hkz := Kp.new wq (.cells #[.bool false, .bool false, .bool false, .bool false, .bool false, .bool false, .bool false, .bool false, .bool false, .bool false, .bool false, .bool false] 117)
              obtain ⟨bz, hbz⟩ : ∃ bz, bz = wq.heap.size := ⟨_, rfl⟩
              generalize wq.alloc (.cells #[.bool false, .bool false, .bool false, .bool false, .bool false, .bool false, .bool false, .bool false, .bool false, .bool false, .bool false, .bool false] 117) = wc at hHc hz hkz ⊢
              rw [← hbz] at hz ⊢
              have hbq : wq.heap.size ≤ bz := by omega
              clear hbz
              refine anyH_one 8 (by kernel_rfl) ?_
              simp only [opsAt, List.getElem?_toArray, List.getElem?_cons_zero, List.getElem?_cons_succ]
              go_wp2_with (go_at_call 75; go_loud (refine (Htok.out _).mono ?_); rintro e wz ⟨rfl, hkc⟩)
              refine ⟨hHc.kp hkc, ?_⟩
              have hHz := hHc.kp hkc
              replace hz := hz.kp hkc
              replace hkz := Kp.trans hkz hkc
              refine anyH_take [9, 10, 11] (by kernel_rfl) hHz ?_
              simp only [opsAt, List.getElem?_toArray, List.getElem?_cons_zero, List.getElem?_cons_succ]
              repeat (go_big_quiet_step (fail))
              refine wpQuiet_nil ?_
              have hzs := hz.lt
              have hst := hz.store Y'
              obtain ⟨z0, z1, z2, z3, z4, z5, z6, z7, z8, z9, z10, z11⟩ := hz.cells
              obtain ⟨g0, g1, g2, g3, g4, g5, g6, g7, g8, g9, g10, g11⟩ := hz.free
              clear hz
              unfold snV
              refine anyH_one 13 (by kernel_rfl) ?_
              simp only [opsAt, List.getElem?_toArray, List.getElem?_cons_zero, List.getElem?_cons_succ]
              go_wp2_with fail
              refine ⟨hHz.fr hst.2 (by simp; omega) (by simp; omega) (by simp; omega), ?_⟩
              have hHw := hHz.fr hst.2 (by simp; omega) (by simp; omega) (by simp; omega)
              generalize ((((((((((((wz.setCell ⟨bz, 0, none⟩ (.bool (Y' 0))).setCell ⟨bz, 1, none⟩ (.bool (Y' 1))).setCell ⟨bz, 2, none⟩ (.bool (Y' 2))).setCell ⟨bz, 3, none⟩ (.bool (Y' 3))).setCell ⟨bz, 4, none⟩ (.bool (Y' 4))).setCell ⟨bz, 5, none⟩ (.bool (Y' 5))).setCell ⟨bz, 6, none⟩ (.bool (Y' 6))).setCell ⟨bz, 7, none⟩ (.bool (Y' 7))).setCell ⟨bz, 8, none⟩ (.bool (Y' 8))).setCell ⟨bz, 9, none⟩ (.bool (Y' 9))).setCell ⟨bz, 10, none⟩ (.bool (Y' 10))).setCell ⟨bz, 11, none⟩ (.bool (Y' 11))) = wst at hst hHw ⊢
              clear z0 z1 z2 z3 z4 z5 z6 z7 z8 z9 z10 z11 g0 g1 g2 g3 g4 g5 g6 g7 g8 g9 g10 g11 hHz
              refine anyH_take [14] (by kernel_rfl) hHw ?_
              simp only [opsAt, List.getElem?_toArray, List.getElem?_cons_zero, List.getElem?_cons_succ]
              repeat (go_big_quiet_step (fail))
              refine wpQuiet_nil ?_
              refine anyH_end (by kernel_rfl) ?_
              have hFw : Fr [bx] w4 wst := (hF4.trans ((Fr.of_kp (Kp.trans hkq hkz)).mono (by simp))).step hst.2 (fun i hi => .inr (by have := hF4.size; simp at hi; omega))
              have hkf : Kp wa wst := (((Fr.of_kp hkr).trans (Fr.of_kp Hk4.out.1)).step hFw (fun i hi => .inr (by have := Hbx.out; simp at hi; omega))).kp
              by_cases he : e0 = 0
              · subst he
                obtain ⟨u0, u1, u2, u3, u4, u5, u6, u7, u8, u9, u10, u11⟩ := hst.1.cells
                obtain ⟨v0, v1, v2, v3, v4, v5, v6, v7, v8, v9, v10, v11⟩ := hHw.1.cells
                obtain ⟨h0, h1, h2, h3, h4, h5, h6, h7, h8, h9, h10, h11⟩ := hHw.1.free
                have hst2 := hHw.1.store Y'
                have Hfin := Lib.hid (show Fr [bx] w4 _ ∧ SnAt _ bx Y' ∧ toksR X f ts = toksR Y' f (ts.drop (j + 1)) from ⟨hFw.trans hst2.2, hst2.1, by rw [Htk.out, Hat.out]; rfl⟩)
                clear hst2 hHw hst hFw hkf
                go_wp2_with fail
                go_roundw
                case rel => exact ⟨j + 1, Y', by omega, by go_num, Hfin.out.1, Hfin.out.2.1, Hfin.out.2.2⟩
                case measure => simp [intOf]; omega
              · have hb : ((e0 : Int) != 0) = true := by simp; omega
                have hb2 : ¬ ((e0 : Int) = 0) := by omega
                have Hres := Lib.hid (show checkR b0 b1 ls = e0 from chk_tok Hc.out Hls.out HatL.out Htk.out Hat.out he)
                have Hkf := Lib.hid (Kp.trans Hk1.out hkf)
                clear hHw hst hFw hkf
                go_wp2_with fail
                go_ret
                exact ⟨by rw [Hres.out]; rfl, Hkf.out⟩
          · obtain rfl : j = tn := by omega
            rw [List.drop_of_length_le (by omega)] at Htk
            obtain ⟨x0, x1, x2, x3, x4, x5, x6, x7, x8, x9, x10, x11⟩ := hS.cells
            have hkw : Kp wa wv := (((Fr.of_kp hkr).trans (Fr.of_kp Hk4.out.1)).step hF4 (fun i hi => .inr (by have := Hbx.out; simp at hi; omega))).kp
            have hFr : Fr [bx] w3 wv := (hF.trans ((Fr.of_kp Hk4.out.1).mono (by simp))).trans hF4
            have HS := Lib.hid hS
            have Hkw := Lib.hid (And.intro hkw hFr)
            have Hsafe := Lib.hid (fun w' => safeR_any w' Y f Hf.out)
            clear hS hkw hFr
            unfold snV at Hsafe
            go_wp2_with fail
            (with_reducible refine (Hsafe.out _).mono ?_)
            rintro e wc ⟨rfl, o, rfl⟩
            cases hsf : safeR Y f with
            | true =>
              have Hfin := Lib.hid (show lsR (begunR b0 b1) ls = lsR Y (ls.drop (k + 1)) from chk_next Hls.out HatL.out Htk.out hsf)
              have hkn := Kp.new wv o
              have HF := Lib.hid (And.intro (Hkw.out.2.trans ((Fr.of_kp hkn).mono (by simp))) (HS.out.kp hkn))
              clear hkn hsf
              go_wp2_with fail
              go_roundw
              case rel => exact ⟨k + 1, Y, by omega, by go_num, HF.out.1, HF.out.2, Hfin.out⟩
              case measure => simp [intOf]; omega
            | false =>
              have Hres := Lib.hid (show checkR b0 b1 ls = 12 from chk_unsafe Hc.out Hls.out HatL.out Htk.out hsf)
              have Hkf := Lib.hid (Kp.trans Hk1.out (Kp.trans Hkw.out.1 (Kp.new _ o)))
              clear hsf
              go_wp2_with fail
              go_ret
              exact ⟨by rw [Hres.out]; rfl, Hkf.out⟩
      · obtain rfl : k = ls.length := by rw [Hll.out]; omega
        rw [List.drop_of_length_le (Nat.le_refl _)] at Hls
        obtain ⟨x0, x1, x2, x3, x4, x5, x6, x7, x8, x9, x10, x11⟩ := hS.cells
        have HS := Lib.hid hS
        have Hsafe := Lib.hid (fun w' f (hf : f = 0 ∨ f = 1) => safeR_any w' X f hf)
        have hnle : nl = ls.length := Hll.out.symm
        have Hfin := Lib.hid (show checkR b0 b1 ls = if !safeR X 0 || (!oneWay ls && !safeR X 1) then 12 else 0 by rw [Hc.out, Hls.out]; rfl)
        subst hnle
        unfold snV at Hsafe
        clear hS
        go_wp2_with fail
        (with_reducible refine (Hsafe.out _ 0 (.inl rfl)).mono ?_)
        rintro e wc ⟨rfl, o, rfl⟩
        have hko : Kp wa (wr0.alloc o) := Kp.trans hkr (Kp.new _ o)
        have Hko := Lib.hid (And.intro (Kp.trans Hk1.out hko) (HS.out.kp (Kp.new _ o)))
        cases hs0 : safeR X 0 with
        | false =>
          have Hres := Lib.hid (show checkR b0 b1 ls = 12 by rw [Hfin.out, hs0]; rfl)
          clear hs0
          go_wp2_with fail
          go_ret
          exact ⟨by rw [Hres.out]; rfl, Hko.out.1⟩
        | true =>
          have Hs0 := Lib.hid hs0; clear hs0
          clear y0 y1 y2 y3 x0 x1 x2 x3 x4 x5 x6 x7 x8 x9 x10 x11
          obtain ⟨y0, y1, y2, y3⟩ := HB.out.kp hko
          go_wp2_with fail
          (with_reducible refine (How.out _ hko).mono ?_)
          rintro e wd ⟨rfl, hkd⟩
          have Hkd := Lib.hid (And.intro (Kp.trans Hko.out.1 hkd) (Hko.out.2.kp hkd))
          cases how : oneWay ls with
          | true =>
            have Hres := Lib.hid (show checkR b0 b1 ls = 0 by rw [Hfin.out, Hs0.out, how]; rfl)
            clear how
            go_wp2_with fail
            go_ret
            exact ⟨by rw [Hres.out]; rfl, Hkd.out.1⟩
          | false =>
            have Hhow := Lib.hid how; clear how
            obtain ⟨x0, x1, x2, x3, x4, x5, x6, x7, x8, x9, x10, x11⟩ := Hkd.out.2.cells
            go_wp2_with fail
            (with_reducible refine (Hsafe.out _ 1 (.inr rfl)).mono ?_)
            rintro e we ⟨rfl, o2, rfl⟩
            have Hke := Lib.hid (Kp.trans Hkd.out.1 (Kp.new _ o2))
            cases hs1 : safeR X 1 with
            | true =>
              have Hres := Lib.hid (show checkR b0 b1 ls = 0 by rw [Hfin.out, Hs0.out, Hhow.out, hs1]; rfl)
              clear hs1
              go_wp2_with fail
              go_ret
              exact ⟨by rw [Hres.out]; rfl, Hke.out⟩
            | false =>
              have Hres := Lib.hid (show checkR b0 b1 ls = 12 by rw [Hfin.out, Hs0.out, Hhow.out, hs1]; rfl)
              clear hs1
              go_wp2_with fail
              go_ret
              exact ⟨by rw [Hres.out]; rfl, Hke.out⟩
end Go.Proofs.YtbdphdgomcabmaaGreatDoor
