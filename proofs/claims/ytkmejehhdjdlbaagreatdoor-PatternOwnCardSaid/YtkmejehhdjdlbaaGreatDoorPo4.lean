/- Parts of the walks and plain laws, merged: Check, Ints, Much, Open, Law, OpenN, PatO, Loads, PatP, QCheck, QOnce, QMod, Sep, TxtC, TxtD, VwO, Grw. Each theorem bears its own conditions; no other. -/
import Derived.Test.YtkmejehhdjdlbaaGreatDoorShaped
import Derived.Test.YtkmejehhdjdlbaaGreatDoorPo1
import Derived.Deep.QuietTactic
import Derived.Deep.SlicePairs
import Derived.OpenShut
import Derived.Test.YtkmejehhdjdlbaaGreatDoorCards
import Derived.Test.YtkmejehhdjdlbaaGreatDoorTie
import Derived.ProofKit
import Derived.Deep.DeepHandedRow
import Derived.Stop.LaidErr
import Derived.Lay
import Derived.Test.YtkmejehhdjdlbaaGreatDoorPo2
import Derived.Tactics2
import Derived.Defers
import Derived.Recover
import Derived.Laws.Pointers
import Derived.Deep.AppendSrc
namespace Go.Proofs.YtkmejehhdjdlbaaGreatDoor
open Go.RowKit

def S0 : Nat → Bool := fun _ => false
def begunL (b0 b1 : List Int) : Nat → Bool := b1.foldl (fun S t => upd S (3 + t).toNat true) (b0.foldl (fun S t => upd S t.toNat true) S0)
def runToks (S : Nat → Bool) (f : Int) : List Int → Nat × (Nat → Bool)
  | [] => (0, S)
  | t :: r => if offL S f t r.isEmpty = 0 then runToks (tookL S f t) f r else (offL S f t r.isEmpty, S)
def runLs (S : Nat → Bool) : List Ln → Nat × (Nat → Bool)
  | [] => (0, S)
  | l :: r => if (runToks S l.1 l.2).1 = 0 then runLs (runToks S l.1 l.2).2 r else runToks S l.1 l.2
def oneWay (ls : List Ln) : Bool := ls.length == 1 && (ls[0]?).map (·.1) == some 0
def endL (S : Nat → Bool) (ls : List Ln) : Nat := if !safeL S 0 || (!oneWay ls && !safeL S 1) then 12 else 0
/-- The number of the error; 0: none. -/
def checkL (b0 b1 : List Int) (ls : List Ln) : Nat :=
  if shapedL b0 b1 ls then (if (runLs (begunL b0 b1) ls).1 = 0 then endL (runLs (begunL b0 b1) ls).2 ls else (runLs (begunL b0 b1) ls).1) else 9

theorem okB_mem {l : List Int} (h : okB l = true) : ∀ j (hj : j < l.length), l[j] = 1 ∨ l[j] = 2 := by
  match l, h with
  | [], _ => intro j hj; simp at hj
  | [x], h => intro j hj; obtain rfl : j = 0 := by simpa using hj
              simpa [okB] using h
  | [x, y], h =>
    intro j hj
    simp only [okB, Bool.and_eq_true, beq_iff_eq] at h
    obtain ⟨rfl, rfl⟩ := h
    rcases (show j = 0 ∨ j = 1 by simp at hj; omega) with rfl | rfl
    · left; rfl
    · right; rfl
  | _ :: _ :: _ :: _, h => simp [okB] at h

theorem linesOk_mem {ls : List Ln} : ∀ {prev : Option Int} {n : Nat}, linesOk prev n ls = true → ∀ j (h : j < ls.length), (ls[j].1 = 0 ∨ ls[j].1 = 1) ∧ 0 < ls[j].2.length ∧ ∀ i (hi : i < ls[j].2.length), 1 ≤ ls[j].2[i] ∧ ls[j].2[i] ≤ 7 := by
  induction ls with
  | nil => intro _ _ _ j h; simp at h
  | cons l r ih =>
    intro prev n hl j h
    simp only [linesOk, Bool.and_eq_true] at hl
    obtain ⟨⟨⟨h1, h2⟩, h3⟩, h4⟩ := hl
    rcases j with _ | j
    · simp only [headOk, Bool.and_eq_true, Bool.or_eq_true, beq_iff_eq, bne_iff_ne] at h1
      refine ⟨h1.1.1, by have := h1.2; simp only [List.getElem_cons_zero]; omega, fun i hi => ?_⟩
      have := List.all_eq_true.1 h2 _ (List.getElem_mem hi)
      simpa using this
    · exact ih h4 j (by simpa using h)
theorem shapedL_mem {b0 b1 : List Int} {ls : List Ln} (h : shapedL b0 b1 ls = true) : okB b0 = true ∧ okB b1 = true ∧ 0 < ls.length ∧ ∀ j (h : j < ls.length), (ls[j].1 = 0 ∨ ls[j].1 = 1) ∧ 0 < ls[j].2.length ∧ ∀ i (hi : i < ls[j].2.length), 1 ≤ ls[j].2[i] ∧ ls[j].2[i] ≤ 7 := by
  simp only [shapedL, Bool.and_eq_true, bne_iff_ne] at h
  exact ⟨h.1.1.1, h.1.1.2, by omega, linesOk_mem h.2⟩

def foldSet (S : Nat → Bool) (d : Int) (l : List Int) : Nat → Bool := l.foldl (fun S t => upd S (d + t).toNat true) S
theorem foldSet_succ (S : Nat → Bool) (d : Int) (l : List Int) (k : Nat) (h : k < l.length) : foldSet S d (l.take (k + 1)) = upd (foldSet S d (l.take k)) (d + l[k]).toNat true := by
  unfold foldSet
  rw [take_step l k h, List.foldl_append]; rfl
theorem begunL_eq (b0 b1 : List Int) : begunL b0 b1 = foldSet (foldSet S0 0 b0) 3 b1 := by
  unfold begunL foldSet
  simp only [Int.zero_add]
theorem runToks_at (S : Nat → Bool) (f : Int) (ts : List Int) (j : Nat) (h : j < ts.length) : runToks S f (ts.drop j) = if offL S f ts[j] (j + 1 == ts.length) = 0 then runToks (tookL S f ts[j]) f (ts.drop (j + 1)) else (offL S f ts[j] (j + 1 == ts.length), S) := by
  rw [drop_cons ts j h, runToks]
  have : (ts.drop (j + 1)).isEmpty = (j + 1 == ts.length) := by
    rw [Bool.eq_iff_iff]; simp; omega
  rw [this]
theorem runLs_at (S : Nat → Bool) (ls : List Ln) (k : Nat) (h : k < ls.length) : runLs S (ls.drop k) = if (runToks S ls[k].1 ls[k].2).1 = 0 then runLs (runToks S ls[k].1 ls[k].2).2 (ls.drop (k + 1)) else runToks S ls[k].1 ls[k].2 := by
  rw [drop_cons ls k h, runLs]

theorem kp_step2 {w0 w w' : World} {b : Nat} (hk : Kp w0 w) (k : Fr [b] w w') (h : w0.heap.size < b) : Kp w0 w' := ((Fr.of_kp hk).step k (fun j hj => .inr (by simp only [List.mem_singleton] at hj; omega))).kp
theorem newWalk (w : World) : WalkAt (w.alloc (.cells #[.bool false, .bool false, .bool false, .bool false, .bool false, .bool false, .bool false, .bool false, .bool false, .bool false, .bool false, .bool false, .bool false, .bool false] 96)) w.heap.size S0 := fun j hj => by
  constructor
  · rw [World.cell?_alloc_at _ _ _ _ rfl]
    rcases (show j = 0 ∨ j = 1 ∨ j = 2 ∨ j = 3 ∨ j = 4 ∨ j = 5 ∨ j = 6 ∨ j = 7 ∨ j = 8 ∨ j = 9 ∨ j = 10 ∨ j = 11 ∨ j = 12 ∨ j = 13 by omega) with rfl | rfl | rfl | rfl | rfl | rfl | rfl | rfl | rfl | rfl | rfl | rfl | rfl | rfl <;> rfl
  · exact World.frozen?_alloc_at _ _ _ _ rfl

set_option maxRecDepth 100000 in
set_option maxHeartbeats 4000000 in
theorem check_any (w : World) (E : Nat → Addr) (hE : Errs w E) (nm : ByteArray) (a0 a1 al : Option Addr) (n0 c0 n1 c1 nl cl : Nat) (b0 b1 : List Int) (ls : List Ln) (h0 : Is w a0 n0 b0) (h1 : Is w a1 n1 b1) (hl : Lns w al nl ls) :
    Calls Tryz.prog 24 #[.agg #[.string nm, .slice a0 n0 c0, .slice a1 n1 c1, .slice al nl cl]] w fun e w' => e = .returned (errV E (checkL b0 b1 ls)) ∧ Kp w w' := by
  have hnl := hl.2.1
  have Hll := Lib.hid hl.1
  have hnew : ∀ j v, [Value.string nm, .slice a0 n0 c0, .slice a1 n1 c1, .slice al nl cl][j]? = some v → (w.alloc (.cells #[.string nm, .slice a0 n0 c0, .slice a1 n1 c1, .slice al nl cl] 26)).cell? ⟨w.heap.size, j, none⟩ = some v := by
    intro j v hv
    rw [World.cell?_alloc_at _ _ _ _ rfl]
    simpa using hv
  have Hnew := Lib.hid hnew; clear hnew
  have i0 : ∀ w, (Instr.index 23 (.agg #[.slice a0 n0 c0, .slice a1 n1 c1]) (.int .i64 0)).run Tryz.prog w = .ok (.slice a0 n0 c0) w := fun _ => by kernel_rfl
  have i1 : ∀ w, (Instr.index 23 (.agg #[.slice a0 n0 c0, .slice a1 n1 c1]) (.int .i64 1)).run Tryz.prog w = .ok (.slice a1 n1 c1) w := fun _ => by kernel_rfl
  go_enter Tryz.func24, Tryz.ntmps24
  go_wp2_with fail
  (with_reducible refine (shaped_any _ nm a0 a1 al n0 c0 n1 c1 nl cl b0 b1 ls (Kp.is (Kp.new _ _) h0) (Kp.is (Kp.new _ _) h1) (Kp.lns (Kp.new _ _) hl)).mono ?_)
  rintro e w1 ⟨rfl, hk1⟩
  have hkw := Kp.trans (Kp.new _ _) hk1
  have hE1 := Kp.errs hkw hE
  cases hs : shapedL b0 b1 ls with
  | false =>
    have HF := Lib.hid (show checkL b0 b1 ls = 9 by unfold checkL; rw [hs]; rfl)
    have e9 := hE1.1
    clear hs
    go_wp2_with fail
    go_ret
    exact ⟨by rw [HF.out]; rfl, hkw⟩
  | true =>
    obtain ⟨hb0, hb1, hl0, hmem⟩ := shapedL_mem hs
    have HF := Lib.hid (show checkL b0 b1 ls = if (runLs (begunL b0 b1) ls).1 = 0 then endL (runLs (begunL b0 b1) ls).2 ls else (runLs (begunL b0 b1) ls).1 by unfold checkL; rw [hs]; rfl)
    have y1 := fun o => Kp.cell (Kp.new w1 o) (Kp.cell hk1 (Hnew.out 1 _ rfl))
    have y2 := fun o => Kp.cell (Kp.new w1 o) (Kp.cell hk1 (Hnew.out 2 _ rfl))
    have y3 := fun o => Kp.cell (Kp.new w1 o) (Kp.cell hk1 (Hnew.out 3 _ rfl))
    have Hb0 := Lib.hid (okB_mem hb0)
    have Hb1 := Lib.hid (okB_mem hb1)
    have Hmem := Lib.hid hmem
    clear hs hb0 hb1 hmem
    go_wp2_with fail
    have hW := newWalk w1
    have hlt1 : w.heap.size < w1.heap.size := by have := hk1.size; simp at this; omega
    have hkb := Kp.trans hkw (Kp.new w1 (.cells #[.bool false, .bool false, .bool false, .bool false, .bool false, .bool false, .bool false, .bool false, .bool false, .bool false, .bool false, .bool false, .bool false, .bool false] 96))
    have y1 := y1 (.cells #[.bool false, .bool false, .bool false, .bool false, .bool false, .bool false, .bool false, .bool false, .bool false, .bool false, .bool false, .bool false, .bool false, .bool false] 96)
    have y2 := y2 (.cells #[.bool false, .bool false, .bool false, .bool false, .bool false, .bool false, .bool false, .bool false, .bool false, .bool false, .bool false, .bool false, .bool false, .bool false] 96)
    have y3 := y3 (.cells #[.bool false, .bool false, .bool false, .bool false, .bool false, .bool false, .bool false, .bool false, .bool false, .bool false, .bool false, .bool false, .bool false, .bool false] 96)
    obtain ⟨bw, hbw⟩ : ∃ x, x = w1.heap.size := ⟨_, rfl⟩
    rw [← hbw] at hW hlt1 ⊢
    clear hbw
    generalize w1.alloc (.cells #[.bool false, .bool false, .bool false, .bool false, .bool false, .bool false, .bool false, .bool false, .bool false, .bool false, .bool false, .bool false, .bool false, .bool false] 96) = wb at *
    have hfar : ∀ w', Fr [bw] wb w' → Kp w w' := fun w' h => kp_step2 hkb h hlt1
    have Hfar := Lib.hid hfar; clear hfar
    go_loopw [22] (fun i wr => ∃ k : Nat, k ≤ 2 ∧ i = .int .i64 k ∧ Fr [bw] wb wr ∧ WalkAt wr bw (if k = 0 then S0 else if k = 1 then foldSet S0 0 b0 else foldSet (foldSet S0 0 b0) 3 b1)) (fun i _ => 2 - (intOf i).toNat)
    case atStart => exact ⟨0, by omega, rfl, Fr.refl _ _, hW⟩
    case round =>
      clear hW
      obtain ⟨k, hk, rfl, hF, hW⟩ := hrel
      rcases (show k = 0 ∨ k = 1 ∨ k = 2 by omega) with rfl | rfl | rfl
      · rw [if_pos rfl] at hW
        have hI := Kp.is (Hfar.out _ hF) h0
        have hlen : b0.length = n0 := h0.1
        have hnn : n0 ≤ 9223372036854775807 := h0.2.1
        have Hlen := Lib.hid hlen; clear hlen
        have hW0 : WalkAt wr bw (foldSet S0 0 (b0.take 0)) := hW
        clear hW
        go_wp2_with fail
        obtain ⟨wo, rfl⟩ : ∃ wo : World, wo = wr := ⟨_, rfl⟩
        go_loopw [28] (fun i wr => ∃ j : Nat, j ≤ n0 ∧ i = .int .i64 j ∧ Fr [bw] wb wr ∧ WalkAt wr bw (foldSet S0 0 (b0.take j))) (fun i _ => n0 - (intOf i).toNat)
        case atStart => exact ⟨0, by omega, rfl, hF, hW0⟩
        case round =>
          clear hW0 hF hI
          obtain ⟨j, hj, rfl, hF, hW⟩ := hrel
          have hI := Kp.is (Hfar.out _ hF) h0
          by_cases hjn : j < n0
          · obtain ⟨tb, toff, rfl, _, hcc⟩ := hI.at j hjn
            have hck := hcc j hjn
            have hjl : j < b0.length := by rw [Hlen.out]; exact hjn
            have hsucc := foldSet_succ S0 0 b0 j hjl
            have hval := Hb0.out j hjl
            clear hcc
            generalize b0[j]'hjl = t at hck hsucc hval
            have Hsucc := Lib.hid hsucc; clear hsucc
            rcases hval with rfl | rfl
            · have c := (hW 1 (by omega)).1
              have z := (hW 1 (by omega)).2
              have hW2 := hW.set 1 (by omega)
              have hF2 := hF.trans (Fr.set wr ⟨bw, 1, none⟩ (.bool true))
              go_wp2_with fail
              go_roundw
              case rel => exact ⟨j + 1, by omega, by go_num, hF2, by rw [Hsucc.out]; exact hW2⟩
              case measure => simp [intOf]; omega
            · have c := (hW 2 (by omega)).1
              have z := (hW 2 (by omega)).2
              have hW2 := hW.set 2 (by omega)
              have hF2 := hF.trans (Fr.set wr ⟨bw, 2, none⟩ (.bool true))
              go_wp2_with fail
              go_roundw
              case rel => exact ⟨j + 1, by omega, by go_num, hF2, by rw [Hsucc.out]; exact hW2⟩
              case measure => simp [intOf]; omega
          · obtain rfl : n0 = j := by omega
            rw [List.take_of_length_le (by rw [Hlen.out]; exact Nat.le_refl _)] at hW
            go_wp2_with fail
            go_roundw
            case rel => exact ⟨1, by omega, rfl, hF, hW⟩
            case measure => simp [intOf]
      · rw [if_neg (by decide), if_pos rfl] at hW
        have hI := Kp.is (Hfar.out _ hF) h1
        have hlen : b1.length = n1 := h1.1
        have hnn : n1 ≤ 9223372036854775807 := h1.2.1
        have Hlen := Lib.hid hlen; clear hlen
        have hW0 : WalkAt wr bw (foldSet (foldSet S0 0 b0) 3 (b1.take 0)) := hW
        clear hW
        go_wp2_with fail
        obtain ⟨wo, rfl⟩ : ∃ wo : World, wo = wr := ⟨_, rfl⟩
        go_loopw [28] (fun i wr => ∃ j : Nat, j ≤ n1 ∧ i = .int .i64 j ∧ Fr [bw] wb wr ∧ WalkAt wr bw (foldSet (foldSet S0 0 b0) 3 (b1.take j))) (fun i _ => n1 - (intOf i).toNat)
        case atStart => exact ⟨0, by omega, rfl, hF, hW0⟩
        case round =>
          clear hW0 hF hI
          obtain ⟨j, hj, rfl, hF, hW⟩ := hrel
          have hI := Kp.is (Hfar.out _ hF) h1
          by_cases hjn : j < n1
          · obtain ⟨tb, toff, rfl, _, hcc⟩ := hI.at j hjn
            have hck := hcc j hjn
            have hjl : j < b1.length := by rw [Hlen.out]; exact hjn
            have hsucc := foldSet_succ (foldSet S0 0 b0) 3 b1 j hjl
            have hval := Hb1.out j hjl
            clear hcc
            generalize b1[j]'hjl = t at hck hsucc hval
            have Hsucc := Lib.hid hsucc; clear hsucc
            rcases hval with rfl | rfl
            · have c := (hW 4 (by omega)).1
              have z := (hW 4 (by omega)).2
              have hW2 := hW.set 4 (by omega)
              have hF2 := hF.trans (Fr.set wr ⟨bw, 4, none⟩ (.bool true))
              go_wp2_with fail
              go_roundw
              case rel => exact ⟨j + 1, by omega, by go_num, hF2, by rw [Hsucc.out]; exact hW2⟩
              case measure => simp [intOf]; omega
            · have c := (hW 5 (by omega)).1
              have z := (hW 5 (by omega)).2
              have hW2 := hW.set 5 (by omega)
              have hF2 := hF.trans (Fr.set wr ⟨bw, 5, none⟩ (.bool true))
              go_wp2_with fail
              go_roundw
              case rel => exact ⟨j + 1, by omega, by go_num, hF2, by rw [Hsucc.out]; exact hW2⟩
              case measure => simp [intOf]; omega
          · obtain rfl : n1 = j := by omega
            rw [List.take_of_length_le (by rw [Hlen.out]; exact Nat.le_refl _)] at hW
            go_wp2_with fail
            go_roundw
            case rel => exact ⟨2, by omega, rfl, hF, hW⟩
            case measure => simp [intOf]
      · rw [if_neg (by decide), if_neg (by decide)] at hW
        rw [← begunL_eq] at hW
        rw [show ((2 : Nat) : Int) = 2 from rfl]
        obtain ⟨wo, rfl⟩ : ∃ wo : World, wo = wr := ⟨_, rfl⟩
        have y3o := hF.cell y3 (by simp; omega)
        go_wp2_with fail
        go_loopw [44] (fun i wr => ∃ (k : Nat) (S : Nat → Bool), k ≤ nl ∧ i = .int .i64 k ∧ Fr [bw] wb wr ∧ WalkAt wr bw S ∧ runLs (begunL b0 b1) ls = runLs S (ls.drop k)) (fun i _ => nl - (intOf i).toNat)
        case atStart => exact ⟨0, begunL b0 b1, by omega, rfl, hF, hW, rfl⟩
        case round =>
          clear hW hF y3o
          obtain ⟨k, S, hk, rfl, hF, hW, hrun⟩ := hrel
          have Hrun := Lib.hid hrun; clear hrun
          by_cases hlt : k < nl
          · have hkl : k < ls.length := by rw [Hll.out]; exact hlt
            have hkr := Hfar.out _ hF
            obtain ⟨b, off, tp, tn, tc, rfl, hc1, hc2, hI, htn⟩ := hl.2.2 k hkl
            have hc1 := Kp.cell hkr hc1
            have hc2 := Kp.cell hkr hc2
            obtain ⟨hfm, htpos, htm⟩ := Hmem.out k hkl
            have hat := runLs_at S ls k hkl
            obtain ⟨f, ts, hft⟩ : ∃ f ts, ls[k] = (f, ts) := ⟨_, _, rfl⟩
            rw [hft] at hc1 hI hat hfm htpos htm
            have hI : Is w tp tn ts := hI
            have hc1 : wr.cell? ⟨b, off + k * 2, none⟩ = some (iv f) := hc1
            have hfm : f = 0 ∨ f = 1 := hfm
            have Htm := Lib.hid htm; clear htm
            have htl : ts.length = tn := hI.1
            have Htl := Lib.hid htl; clear htl
            have htpos : 0 < tn := by rw [← Htl.out]; exact htpos
            have Hat := Lib.hid hat; clear hat hft
            have HI := Lib.hid hI; clear hI
            have hWq := fun o => Kp.walk (Kp.new wr o) hW
            have HWq := Lib.hid hWq; clear hWq
            have hlt2 : bw < wr.heap.size := World.block_lt_of_cell? wr _ (hW 0 (by omega)).1
            go_wp2_with fail
            have hkn := Kp.new wr (.cells #[iv f, .slice tp tn tc] 73)
            have hd0 : (wr.alloc (.cells #[iv f, .slice tp tn tc] 73)).cell? ⟨wr.heap.size, 0, none⟩ = some (iv f) := by rw [World.cell?_alloc_at _ _ _ _ rfl]; rfl
            have hd1 : (wr.alloc (.cells #[iv f, .slice tp tn tc] 73)).cell? ⟨wr.heap.size, 1, none⟩ = some (.slice tp tn tc) := by rw [World.cell?_alloc_at _ _ _ _ rfl]; rfl
            have hWq := HWq.out (.cells #[iv f, .slice tp tn tc] 73)
            have hFq := hF.trans ((Fr.of_kp hkn).mono (Y := [bw]) (by simp))
            obtain ⟨bn, hbn⟩ : ∃ x, x = wr.heap.size := ⟨_, rfl⟩
            rw [← hbn] at hd0 hd1 hlt2 ⊢
            clear hbn HWq
            generalize wr.alloc (.cells #[iv f, .slice tp tn tc] 73) = wq at *
            go_loopw [51] (fun i wv => ∃ (j : Nat) (S' : Nat → Bool), j ≤ tn ∧ i = .int .i64 j ∧ Fr [bw] wq wv ∧ WalkAt wv bw S' ∧ runToks S f ts = runToks S' f (ts.drop j)) (fun i _ => tn - (intOf i).toNat)
            case atStart => exact ⟨0, S, by omega, rfl, Fr.refl _ _, hWq, rfl⟩
            case round =>
              clear hWq
              obtain ⟨j, S', hj, rfl, hF', hW', hrt⟩ := hrel
              have Hrt := Lib.hid hrt; clear hrt
              have hFa := hFq.trans hF'
              have hka := Hfar.out _ hFa
              by_cases hjt : j < tn
              · have hjl : j < ts.length := by rw [Htl.out]; exact hjt
                have hE2 := Kp.errs hka hE
                have hd0 := hF'.cell hd0 (by simp; omega)
                have hd1 := hF'.cell hd1 (by simp; omega)
                obtain ⟨tb, toff, rfl, _, hcc⟩ := (Kp.is hka HI.out).at j hjt
                have hck := hcc j hjt
                have hat2 := runToks_at S' f ts j hjl
                obtain ⟨ht1, ht7⟩ := Htm.out j hjl
                obtain ⟨L, hL⟩ : ∃ L, L = (j + 1 == ts.length) := ⟨_, rfl⟩
                rw [← hL] at hat2
                have hb : ((j : Int) == (tn : Int) - 1) = L := by
                  rw [hL, Htl.out, Bool.eq_iff_iff]; simp; omega
                clear hcc hL
                generalize ts[j]'hjl = t at hck hat2 ht1 ht7
                have Hat2 := Lib.hid hat2; clear hat2
                go_wp2_with fail
                (with_reducible refine (takes_any _ E hE2 bw S' hW' f t hfm ht1 ht7 L).mono ?_)
                rintro e w5 ⟨rfl, hF5, hW5⟩
                by_cases hc : offL S' f t L = 0
                · have hW6 := hW5 hc
                  have hrt2 : runToks S f ts = runToks (tookL S' f t) f (ts.drop (j + 1)) := by rw [Hrt.out, Hat2.out, if_pos hc]
                  rw [show errV E (offL S' f t L) = .nilIface by rw [hc]; rfl]
                  have Hrt2 := Lib.hid hrt2
                  clear hW5 hrt2 hc
                  go_wp2_with fail
                  go_roundw
                  case rel => exact ⟨j + 1, tookL S' f t, by omega, by go_num, hF'.trans hF5, hW6, Hrt2.out⟩
                  case measure => simp [intOf]; omega
                · have hk5 := Hfar.out _ (hFa.trans hF5)
                  have HF2 := Lib.hid (show checkL b0 b1 ls = offL S' f t L by
                    have h2 : runToks S f ts = (offL S' f t L, S') := by rw [Hrt.out, Hat2.out, if_neg hc]
                    have h3 : runLs (begunL b0 b1) ls = (offL S' f t L, S') := by rw [Hrun.out, Hat.out, h2]; exact if_neg hc
                    rw [HF.out, h3]; exact if_neg hc)
                  rw [show errV E (offL S' f t L) = .iface 229 (.pointer (some (E (offL S' f t L)))) from if_neg hc]
                  have Hc := Lib.hid hc
                  clear hW5 hc
                  go_wp2_with fail
                  go_ret
                  exact ⟨by rw [HF2.out]; unfold errV; rw [if_neg Hc.out]; rfl, hk5⟩
              · obtain rfl : j = tn := by omega
                have hrt2 : runLs (begunL b0 b1) ls = runLs S' (ls.drop (k + 1)) := by
                  have h2 : runToks S f ts = (0, S') := by rw [Hrt.out, List.drop_of_length_le (by rw [Htl.out]; exact Nat.le_refl _)]; rfl
                  rw [Hrun.out, Hat.out, h2]; rfl
                have Hrt2 := Lib.hid hrt2; clear hrt2
                go_wp2_with fail
                go_roundw
                case rel => exact ⟨k + 1, S', by omega, by go_num, hFa, hW', Hrt2.out⟩
                case measure => simp [intOf]; omega
          · obtain rfl : k = ls.length := by rw [Hll.out]; omega
            obtain rfl : nl = ls.length := Hll.out.symm
            have hkr := Hfar.out _ hF
            have y3 := hF.cell y3 (by simp; omega)
            have HF2 := Lib.hid (show checkL b0 b1 ls = endL S ls by
              have h3 : runLs (begunL b0 b1) ls = (0, S) := by rw [Hrun.out, List.drop_of_length_le (Nat.le_refl _)]; rfl
              rw [HF.out, h3]; rfl)
            have hE2 := Kp.errs hkr hE
            obtain ⟨b, off, tp, tn, tc, rfl, hc1, hc2, hI, htn⟩ := hl.2.2 0 hl0
            have hc1 := Kp.cell hkr hc1
            rw [Nat.zero_mul, Nat.add_zero] at hc1
            have hone : oneWay ls = (ls.length == 1 && ls[0].1 == 0) := by
              unfold oneWay
              rw [List.getElem?_eq_getElem hl0]; rfl
            generalize ls[0].1 = g at hc1 hone
            have Hone := Lib.hid hone; clear hone
            clear hI htn hc2
            go_upto_region 24 with fail
            go_cut [13] (fun v wc => v = .bool (oneWay ls) ∧ wr = wc)
            case first =>
              by_cases hl1 : ls.length = 1
              · have hb : ((ls.length : Int) == 1) = true := by simp; omega
                have HO := Lib.hid (show oneWay ls = (g == 0) by rw [Hone.out, hl1]; rfl)
                clear hl1
                go_wp2_with fail
                go_meet
                case rel => exact ⟨by rw [HO.out], rfl⟩
              · have hb : ((ls.length : Int) == 1) = false := by simp; omega
                have HO := Lib.hid (show oneWay ls = false by rw [Hone.out, beq_false_of_ne hl1]; rfl)
                clear hl1
                go_wp2_with fail
                go_meet
                case rel => exact ⟨by rw [HO.out], rfl⟩
            case rest =>
              obtain ⟨rfl, rfl⟩ := hcut
              have e12 := hE2.2.2.2
              go_wp2_with fail
              (with_reducible refine (safe_any _ bw S 0 (by omega) hW).mono ?_)
              rintro e w6 ⟨rfl, rfl⟩
              cases hs0 : safeL S 0 with
              | false =>
                have HF3 := Lib.hid (show checkL b0 b1 ls = 12 by rw [HF2.out]; unfold endL; rw [hs0]; rfl)
                clear hs0
                go_wp2_with fail
                go_ret
                exact ⟨by rw [HF3.out]; rfl, hkr⟩
              | true =>
                cases how : oneWay ls with
                | true =>
                  have HF3 := Lib.hid (show checkL b0 b1 ls = 0 by rw [HF2.out]; unfold endL; rw [hs0, how]; rfl)
                  clear hs0 how
                  go_wp2_with fail
                  go_ret
                  exact ⟨by rw [HF3.out]; rfl, hkr⟩
                | false =>
                  have HF3 := Lib.hid (show checkL b0 b1 ls = if safeL S 1 then 0 else 12 by rw [HF2.out]; unfold endL; rw [hs0, how]; cases safeL S 1 <;> rfl)
                  clear hs0 how
                  go_wp2_with fail
                  (with_reducible refine (safe_any _ bw S 1 (by omega) hW).mono ?_)
                  rintro e w7 ⟨rfl, rfl⟩
                  cases hs1 : safeL S 1 with
                  | false =>
                    have HF4 := Lib.hid (show checkL b0 b1 ls = 12 by rw [HF3.out, hs1]; rfl)
                    clear hs1
                    go_wp2_with fail
                    go_ret
                    exact ⟨by rw [HF4.out]; rfl, hkr⟩
                  | true =>
                    have HF4 := Lib.hid (show checkL b0 b1 ls = 0 by rw [HF3.out, hs1]; rfl)
                    clear hs1
                    go_wp2_with fail
                    go_ret
                    exact ⟨by rw [HF4.out]; rfl, hkr⟩
end Go.Proofs.YtkmejehhdjdlbaaGreatDoor

namespace Go.Proofs.YtkmejehhdjdlbaaGreatDoor
open Go.RowKit

/-- What is changed is no older than the start. -/
theorem kp_step' {w0 w w' : World} {X : List Nat} (hk : Kp w0 w) (k : Fr X w w') (h : ∀ j ∈ X, w0.heap.size ≤ j) : Kp w0 w' := ((Fr.of_kp hk).step k (fun j hj => .inr (h j hj))).kp
theorem kp_own {w wr wr1 w2 : World} {B sz : Nat} (h : Kp w wr) (k : Kp wr wr1) {e : TypeId} {ao ao2 : Option Addr} {n cap m N cap2 : Nat} {xs zs : List Value} (hB : w.heap.size ≤ B) (hO : Own wr B e sz ao n cap xs) (a : Appd wr1 w2 B e sz ao cap m N zs ao2 cap2) : Kp w w2 :=
  kp_step' (Kp.trans h k) a.fr (fun j hj => Nat.le_trans hB (hO.lt j (mem_blkL.1 hj)).1)

set_option maxHeartbeats 2000000 in
theorem ints_yes (w : World) (ao bo : Option Addr) (n m c d : Nat) (xs : List Int) (hx : Is w ao n xs) (hy : Is w bo m xs) :
    Calls Tryz.prog 73 #[.slice ao n c, .slice bo m d] w fun e w' => e = .returned (.bool true) ∧ ∃ q, w' = w.drewN q := by
  have hn := hx.2.1
  unfold maxLen at hn
  have Hx := Lib.hid hx.1
  have hnm : n = m := by have := hx.1; have := hy.1; omega
  subst hnm
  go_enter Tryz.func73, Tryz.ntmps73
  go_wp2_with fail
  go_loopw [5] (fun i wr => ∃ k q : Nat, k ≤ n ∧ i = .int .i64 k ∧ wr = w.drewN q) (fun i _ => n - (intOf i).toNat)
  case atStart => exact ⟨0, 0, by omega, rfl, rfl⟩
  case round =>
    obtain ⟨k, q, hk, rfl, rfl⟩ := hrel
    by_cases hlt : k < n
    · obtain ⟨b, off, rfl, _, hc⟩ := hx.at k hlt
      obtain ⟨b', off', rfl, _, hc'⟩ := hy.at k hlt
      have c1 := hc k hlt
      have c2 := hc' k hlt
      have lx : k < xs.length := by rw [Hx.out]; exact hlt
      clear hc hc'
      generalize xs[k]'lx = x at c1 c2
      have hne : (x != x) = false := by simp
      go_wp2_with fail
      go_quiet (fail)
      go_wp2_with fail
      go_roundw
      case rel => exact ⟨k + 1, _, by omega, by go_num, by first | rfl | exact World.drewN_drewN _ _ _⟩
      case measure => simp [intOf]; omega
    · go_wp2_with fail
      go_ret
      exact ⟨rfl, q, rfl⟩

/-- A pattern that lies there. -/
structure PatI (w : World) (a0 a1 al : Option Addr) (n0 n1 nl : Nat) (b0 b1 : List Int) (ls : List Ln) : Prop where
  i0 : Is w a0 n0 b0
  i1 : Is w a1 n1 b1
  il : Lns w al nl ls
theorem PatI.kp {w w' : World} {a0 a1 al : Option Addr} {n0 n1 nl : Nat} {b0 b1 : List Int} {ls : List Ln} (h : PatI w a0 a1 al n0 n1 nl b0 b1 ls) (k : Kp w w') : PatI w' a0 a1 al n0 n1 nl b0 b1 ls := ⟨k.is h.i0, k.is h.i1, k.lns h.il⟩
theorem PatI.none (w : World) : PatI w none none none 0 0 0 [] [] [] := ⟨Is.zero _ _, Is.zero _ _, ⟨rfl, Nat.zero_le _, fun j hj => absurd hj (by simp)⟩⟩
abbrev patV (nm : ByteArray) (a0 a1 al : Option Addr) (n0 c0 n1 c1 nl cl : Nat) : Value := .agg #[.string nm, .slice a0 n0 c0, .slice a1 n1 c1, .slice al nl cl]

/-- A block's four cells. -/
theorem new4 (w : World) (a b c d : Value) (t : TypeId) : ∀ j v, [a, b, c, d][j]? = some v → (w.alloc (.cells #[a, b, c, d] t)).cell? ⟨w.heap.size, j, none⟩ = some v := fun j v hv => by
  rw [World.cell?_alloc_at _ _ _ _ rfl]
  simpa using hv

theorem ints_kp (w : World) (ao bo : Option Addr) (n m c d : Nat) (xs : List Int) (hx : Is w ao n xs) (hy : Is w bo m xs) :
    Calls Tryz.prog 73 #[.slice ao n c, .slice bo m d] w fun e w' => e = .returned (.bool true) ∧ Kp w w' :=
  (ints_yes w ao bo n m c d xs hx hy).mono (by rintro e w' ⟨rfl, q, rfl⟩; exact ⟨rfl, Kp.of_drewN _ _⟩)

set_option maxRecDepth 100000 in
set_option maxHeartbeats 4000000 in
theorem same_yes (w : World) (nm : ByteArray) (a0 a1 al e0 e1 el : Option Addr) (n0 c0 n1 c1 nl cl m0 f0 m1 f1 ml fl : Nat) (b0 b1 : List Int) (ls : List Ln)
    (hP : PatI w a0 a1 al n0 n1 nl b0 b1 ls) (hQ : PatI w e0 e1 el m0 m1 ml b0 b1 ls) :
    Calls Tryz.prog 31 #[patV nm a0 a1 al n0 c0 n1 c1 nl cl, patV nm e0 e1 el m0 f0 m1 f1 ml fl] w fun e w' => e = .returned (.bool true) ∧ Kp w w' := by
  obtain ⟨h0, h1, hl⟩ := hP
  obtain ⟨g0, g1, gl⟩ := hQ
  have hnl := hl.2.1
  have Hll := Lib.hid hl.1
  have hml : ml = nl := by have := hl.1; have := gl.1; omega
  subst hml
  have hA := fun j v h => Kp.cell (Kp.new (w.alloc (.cells #[.string nm, .slice a0 n0 c0, .slice a1 n1 c1, .slice al ml cl] 26)) (.cells #[.string nm, .slice e0 m0 f0, .slice e1 m1 f1, .slice el ml fl] 26)) (new4 w (.string nm) (.slice a0 n0 c0) (.slice a1 n1 c1) (.slice al ml cl) 26 j v h)
  have hB := new4 (w.alloc (.cells #[.string nm, .slice a0 n0 c0, .slice a1 n1 c1, .slice al ml cl] 26)) (.string nm) (.slice e0 m0 f0) (.slice e1 m1 f1) (.slice el ml fl) 26
  have hkw := Kp.trans (Kp.new w (.cells #[.string nm, .slice a0 n0 c0, .slice a1 n1 c1, .slice al ml cl] 26)) (Kp.new (w.alloc (.cells #[.string nm, .slice a0 n0 c0, .slice a1 n1 c1, .slice al ml cl] 26)) (.cells #[.string nm, .slice e0 m0 f0, .slice e1 m1 f1, .slice el ml fl] 26))
  have A0 := hA 0 _ rfl
  have A1 := hA 1 _ rfl
  have A2 := hA 2 _ rfl
  have A3 := hA 3 _ rfl
  have B0 := hB 0 _ rfl
  have B1 := hB 1 _ rfl
  have B2 := hB 2 _ rfl
  have B3 := hB 3 _ rfl
  rw [World.size_alloc] at B0 B1 B2 B3
  clear hA hB
  go_enter Tryz.func31, Tryz.ntmps31
  go_upto_region 1 with fail
  generalize (w.alloc (.cells #[.string nm, .slice a0 n0 c0, .slice a1 n1 c1, .slice al ml cl] 26)).alloc (.cells #[.string nm, .slice e0 m0 f0, .slice e1 m1 f1, .slice el ml fl] 26) = wb at *
  go_wp2_with fail
  (with_reducible refine (ints_kp wb a0 e0 n0 m0 c0 f0 b0 (Kp.is hkw h0) (Kp.is hkw g0)).mono ?_)
  rintro e w1 ⟨rfl, hk1⟩
  replace A1 := Kp.cell hk1 A1
  replace A2 := Kp.cell hk1 A2
  replace A3 := Kp.cell hk1 A3
  replace B1 := Kp.cell hk1 B1
  replace B2 := Kp.cell hk1 B2
  replace B3 := Kp.cell hk1 B3
  have hkw := Kp.trans hkw hk1
  go_wp2_with fail
  (with_reducible refine (ints_kp w1 a1 e1 n1 m1 c1 f1 b1 (Kp.is hkw h1) (Kp.is hkw g1)).mono ?_)
  rintro e w2 ⟨rfl, hk2⟩
  replace A3 := Kp.cell hk2 A3
  replace B3 := Kp.cell hk2 B3
  have hkw := Kp.trans hkw hk2
  have hb : ((ml : Int) != (ml : Int)) = false := by simp
  clear A0 A1 A2 B0 B1 B2 hk1 hk2
  go_wp2_with fail
  go_loopw [5] (fun i wr => ∃ k : Nat, k ≤ ml ∧ i = .int .i64 k ∧ Kp w2 wr) (fun i _ => ml - (intOf i).toNat)
  case atStart => exact ⟨0, by omega, rfl, Kp.refl _⟩
  case round =>
    obtain ⟨k, hk, rfl, hk3⟩ := hrel
    rename World => wr
    replace A3 := Kp.cell hk3 A3
    replace B3 := Kp.cell hk3 B3
    have hkr := Kp.trans hkw hk3
    by_cases hlt : k < ml
    · have hkl : k < ls.length := by rw [Hll.out]; exact hlt
      obtain ⟨b, off, tp, tn, tc, rfl, hc1, hc2, hI, _⟩ := hl.2.2 k hkl
      obtain ⟨b', off', tp', tn', tc', rfl, hd1, hd2, hJ, _⟩ := gl.2.2 k hkl
      replace hc1 := Kp.cell hkr hc1
      replace hc2 := Kp.cell hkr hc2
      replace hd1 := Kp.cell hkr hd1
      replace hd2 := Kp.cell hkr hd2
      have Hcall := Lib.hid (fun q => ints_yes (wr.drewN q) tp tp' tn tn' tc tc' _ (Kp.is (Kp.trans hkr (Kp.of_drewN _ _)) hI) (Kp.is (Kp.trans hkr (Kp.of_drewN _ _)) hJ))
      clear hI hJ
      generalize ls[k]'hkl = u at *
      generalize u.1 = f at *
      have hff : (f != f) = false := by simp
      go_wp2_with fail
      go_quiet ((go_at_call 73; exact Calls.quiet_of (Hcall.out _)))
      go_wp2_with fail
      go_roundw
      case rel => exact ⟨k + 1, by omega, by go_num, Kp.trans hk3 (Kp.of_drewN _ _)⟩
      case measure => simp [intOf]; omega
    · go_wp2_with fail
      go_ret
      exact ⟨rfl, hkr⟩
end Go.Proofs.YtkmejehhdjdlbaaGreatDoor

namespace Go.Proofs.YtkmejehhdjdlbaaGreatDoor
open Go.RowKit

/-- Not more than is looked at. -/
structure ShortP (nm : ByteArray) (n0 n1 nl : Nat) (ls : List Ln) : Prop where
  nm : nm.size ≤ 8000
  n0 : n0 ≤ 2000
  n1 : n1 ≤ 2000
  nl : nl ≤ 2000
  ts : ∀ l ∈ ls, l.2.length ≤ 2000
/-- Not more than is looked at, the name as long as it may be. -/
structure ShortM (nm : ByteArray) (n0 n1 nl : Nat) (ls : List Ln) : Prop where
  nm : nm.size ≤ 140737488351232
  n0 : n0 ≤ 2000
  n1 : n1 ≤ 2000
  nl : nl ≤ 2000
  ts : ∀ l ∈ ls, l.2.length ≤ 2000
theorem ShortP.wide {nm : ByteArray} {n0 n1 nl : Nat} {ls : List Ln} (h : ShortP nm n0 n1 nl ls) : ShortM nm n0 n1 nl ls := ⟨by have := h.nm; omega, h.n0, h.n1, h.nl, h.ts⟩
def MuchPost (w : World) (nm : ByteArray) (n0 n1 nl : Nat) (ls : List Ln) (e : Ending) (w' : World) : Prop := ∃ b, e = .returned (.bool b) ∧ Kp w w' ∧ (b = false → ShortP nm n0 n1 nl ls)
theorem MuchPost.yes {w w' : World} {nm : ByteArray} {n0 n1 nl : Nat} {ls : List Ln} (h : Kp w w') : MuchPost w nm n0 n1 nl ls (.returned (.bool true)) w' := ⟨true, rfl, h, fun h => by cases h⟩

set_option maxRecDepth 100000 in
set_option maxHeartbeats 4000000 in
theorem much_any (w : World) (nm : ByteArray) (a0 a1 al : Option Addr) (n0 c0 n1 c1 nl cl : Nat) (b0 b1 : List Int) (ls : List Ln) (hnm : nm.size ≤ 9223372036854775807) (hP : PatI w a0 a1 al n0 n1 nl b0 b1 ls) :
    Calls Tryz.prog 20 #[patV nm a0 a1 al n0 c0 n1 c1 nl cl] w (MuchPost w nm n0 n1 nl ls) := by
  obtain ⟨h0, h1, hl⟩ := hP
  have hn0 := h0.2.1
  have hn1 := h1.2.1
  unfold maxLen at hn0 hn1
  have hnl := hl.2.1
  have Hll := Lib.hid hl.1
  have hk1 := Kp.new w (.cells #[.string nm, .slice a0 n0 c0, .slice a1 n1 c1, .slice al nl cl] 26)
  by_cases c1' : 2000 < n0
  · go_enter Tryz.func20, Tryz.ntmps20
    go_wp2_with fail
    go_ret
    exact MuchPost.yes hk1
  · by_cases c2' : 2000 < n1
    · go_enter Tryz.func20, Tryz.ntmps20
      go_wp2_with fail
      go_ret
      exact MuchPost.yes hk1
    · by_cases c3' : 2000 < nl
      · go_enter Tryz.func20, Tryz.ntmps20
        go_wp2_with fail
        go_ret
        exact MuchPost.yes hk1
      · by_cases c4' : 8000 < nm.size
        · go_enter Tryz.func20, Tryz.ntmps20
          go_wp2_with fail
          go_ret
          exact MuchPost.yes hk1
        · have hnew : (w.alloc (.cells #[.string nm, .slice a0 n0 c0, .slice a1 n1 c1, .slice al nl cl] 26)).cell? ⟨w.heap.size, 3, none⟩ = some (.slice al nl cl) := by rw [World.cell?_alloc_at _ _ _ _ rfl]; rfl
          go_enter Tryz.func20, Tryz.ntmps20
          go_wp2_with fail
          generalize w.alloc (.cells #[.string nm, .slice a0 n0 c0, .slice a1 n1 c1, .slice al nl cl] 26) = wb at *
          obtain ⟨N, hN⟩ : ∃ N, N = n0 + n1 + nl := ⟨_, rfl⟩
          have hNb : N ≤ 6000 := by omega
          have hNe : (n0 : Int) + (n1 : Int) + (nl : Int) = (N : Int) := by omega
          have HN := Lib.hid hN
          clear hN
          simp only [hNe]
          clear hNe
          go_loopw [3, 4] (fun t i wr => ∃ k n : Nat, k ≤ nl ∧ n ≤ 6000 ∧ i = .int .i64 k ∧ t = .int .i64 n ∧ wb = wr ∧ ∀ j (h : j < ls.length), j < k → ls[j].2.length ≤ 2000) (fun _ i _ => nl - (intOf i).toNat)
          case atStart => exact ⟨0, N, by omega, hNb, rfl, rfl, rfl, fun j h hj => by omega⟩
          case round =>
            obtain ⟨k, n, hk, hn, rfl, rfl, rfl, hsm⟩ := hrel
            have Hsm := Lib.hid hsm; clear hsm
            by_cases hlt : k < nl
            · have hkl : k < ls.length := by rw [Hll.out]; exact hlt
              obtain ⟨b, off, tp, tn, tc, rfl, hd1, hd2, hI, htn⟩ := hl.2.2 k hkl
              have hd2 := Kp.cell hk1 hd2
              have Hlen := Lib.hid hI.1
              clear hI
              by_cases ht : 2000 < tn
              · go_wp2_with fail
                go_ret
                exact MuchPost.yes hk1
              · by_cases hov : n + tn ≤ 2000
                · go_wp2_with fail
                  go_roundw
                  case rel =>
                    refine ⟨k + 1, n + tn, by omega, by omega, by go_num, rfl, trivial, fun j h hj => ?_⟩
                    by_cases hjk : j < k
                    · exact Hsm.out j h hjk
                    · obtain rfl : j = k := by omega
                      rw [Hlen.out]; omega
                  case measure => simp [intOf]; omega
                · go_wp2_with fail
                  go_ret
                  exact MuchPost.yes hk1
            · go_wp2_with fail
              go_ret
              refine ⟨_, rfl, hk1, fun _ => ⟨by omega, by omega, by omega, by omega, fun l hl' => ?_⟩⟩
              obtain ⟨j, hj, rfl⟩ := List.getElem_of_mem hl'
              exact Hsm.out j hj (by rw [Hll.out] at hj; omega)
end Go.Proofs.YtkmejehhdjdlbaaGreatDoor

namespace Go.Proofs.YtkmejehhdjdlbaaGreatDoor
open Go.ChangeShapes Go.WideShapes Go.RowKit Go.Deep

theorem weights_of_mem {H : Type} {P : Program} {e : TypeId} {x : Nat} : ∀ {l : List (DataW H)} {d : DataW H}, d ∈ l → x ∈ d.weights P e → x ∈ DataW.weightsAll P e l
  | d0 :: r, d, hd, hx => by
    simp only [DataW.weightsAll, List.mem_append]
    rcases List.mem_cons.1 hd with rfl | hd
    · exact .inl hx
    · exact .inr (weights_of_mem hd hx)
/-- What the row says of each argument's size. -/
theorem weights_at {H : Type} {P : Program} {gs : List (DataW H)} {t : TypeId} {d : DataW H} : ∀ {ts : List TypeId} {ds : List (DataW H)} {j : Nat}, (DataW.weightsEach P (ts ++ []) (ds ++ gs)).all (· ≤ reachBytes) = true → ts[j]? = some t → ds[j]? = some d → ∀ k ∈ d.weights P t, k ≤ 140737488351232
  | t0 :: ts, d0 :: ds, 0, h, ht, hd => by
    obtain rfl : t0 = t := by simpa using ht
    obtain rfl : d0 = d := by simpa using hd
    intro k hk
    simp only [List.cons_append, DataW.weightsEach, List.all_append, Bool.and_eq_true] at h
    have := of_decide_eq_true (List.all_eq_true.1 h.1 k hk)
    exact this
  | t0 :: ts, d0 :: ds, j + 1, h, ht, hd => by
    simp only [List.cons_append, DataW.weightsEach, List.all_append, Bool.and_eq_true] at h
    exact weights_at h.2 (by simpa using ht) (by simpa using hd)
  | [], _, _, _, ht, _ => by simp at ht
  | _ :: _, [], _, _, _, hd => by simp at hd

/-- A slice of numbers in a cell. -/
theorem is_of_cells {H : Type} {enc : TypeId × Value → H} {W : World} {v : Value} {fuel : Nat} {x : DataW H × List MemPlace}
    (h : DataW.trod enc Tryz.prog W 0 (fun _ => true) true fuel 22 [v] = some x) (hw : ∀ k ∈ x.1.weights Tryz.prog 22, k ≤ 140737488351232) : ∃ xo xn xc xs, v = .slice xo xn xc ∧ Is W xo xn xs ∧ xn ≤ 140737488351232 := by
  rcases open_ints Tryz.underlying22 Tryz.underlying3 (by kernel_rfl) h with ⟨hcs, _⟩ | ⟨a, len, cap, zs, hcs, _, hl, hm, hz, rfl, hcell, _⟩
  · obtain rfl : v = .slice none 0 0 := by simpa using hcs
    exact ⟨none, 0, 0, [], rfl, Is.zero _ _, by omega⟩
  · obtain rfl : v = .slice (some a) len cap := by simpa using hcs
    simp only [if_true] at hz
    refine ⟨_, _, _, zs.take len, rfl, ⟨by simp; omega, Nat.le_trans hl hm, fun j u hu => ?_⟩, ?_⟩
    · have hj : j < len := by
        have := (List.getElem?_eq_some_iff.1 hu).1
        simp at this; omega
      have hc := hcell j (by omega)
      obtain ⟨b, off, spot⟩ := a
      have hspot : spot = none := by simpa [Addr.add] using World.cell?_spot (hcell 0 (by omega))
      subst hspot
      rw [Addr.add_lit] at hc
      refine ⟨b, off, rfl, ?_⟩
      rw [hc]
      have hzj : zs[j]? = some zs[j] := List.getElem?_eq_getElem (by omega)
      simp [List.getElem?_map, hj, hzj, List.getD_eq_getElem?_getD] at hu ⊢
      exact hu
    · simp only [DataW.weights, Tryz.underlying22, List.mem_cons] at hw
      have := hw _ (.inl rfl)
      simp only [lits, List.length_map, List.length_take, List.length_drop, show Tryz.prog.bytesOf 3 = 8 by kernel_rfl] at this
      omega

/-- A slice of lines in a cell. -/
theorem lns_of_cells {H : Type} {enc : TypeId × Value → H} {W : World} {v : Value} {fuel : Nat} {x : DataW H × List MemPlace}
    (h : DataW.trod enc Tryz.prog W 0 (fun _ => true) true fuel 24 [v] = some x) (hw : ∀ k ∈ x.1.weights Tryz.prog 24, k ≤ 140737488351232) : ∃ a0 len cap ls, v = .slice a0 len cap ∧ Lns W a0 len ls := by
  rcases open_slice_pairs Tryz.underlying24 Tryz.underlying73 (by kernel_rfl) rfl rfl (by kernel_rfl) (by kernel_rfl) h with ⟨hcs, _⟩ | ⟨a, len, cap, m, n, V0, V1, D0, D1, P0, P1, hcs, _, hl, hm, hme, hx, hi⟩
  · obtain rfl : v = .slice none 0 0 := by simpa using hcs
    exact ⟨_, _, _, [], rfl, rfl, Nat.zero_le _, fun j hj => absurd hj (by simp)⟩
  · obtain rfl : v = .slice (some a) len cap := by simpa using hcs
    have hml : len ≤ m := by rw [hme]; simp; exact hl
    obtain rfl : x = _ := hx
    simp only [DataW.weights, Tryz.underlying24, List.mem_cons, List.mem_append] at hw
    have hlen : len ≤ 140737488351232 := by
      have := hw _ (.inl rfl)
      simp only [List.length_map, List.length_range, show Tryz.prog.bytesOf 73 = 32 by kernel_rfl] at this
      omega
    have hall : ∀ j, j < len → ∃ q : Ln, ∃ b off xo xn xc, some a = some ⟨b, off, none⟩ ∧ W.cell? ⟨b, off + j * 2, none⟩ = some (iv q.1) ∧ W.cell? ⟨b, off + j * 2 + 1, none⟩ = some (.slice xo xn xc) ∧ Is W xo xn q.2 ∧ xn ≤ 140737488351232 := by
      intro j hj
      obtain ⟨h1, h2, h3, h4⟩ := hi j (by omega)
      obtain ⟨b, off, spot⟩ := a
      have hspot : spot = none := by
        simpa [Addr.add] using World.cell?_spot (hi 0 (by omega)).1
      subst hspot
      rw [Addr.add_lit] at h1 h2
      obtain ⟨xo, xn, xc, xs, hv1, hB, hxn⟩ := is_of_cells h4 (fun k hk => hw k (.inr (.inl (weights_of_mem (d := .agg [D0 j, D1 j]) (List.mem_map.2 ⟨j, List.mem_range.2 hj, rfl⟩) (by
        simp only [DataW.weights, Tryz.underlying73, List.map_cons, List.map_nil, DataW.weightsEach, List.mem_append]
        exact .inr (.inl hk))))))
      obtain ⟨z, hz, _⟩ := DataW.trod_int Tryz.underlying3 h3
      exact ⟨(z, xs), b, off, xo, xn, xc, rfl, by rw [h1]; simpa using hz, by rw [← hv1, ← h2, Nat.add_assoc], hB, hxn⟩
    obtain ⟨f, hf⟩ := choose_lt hall
    refine ⟨_, _, _, (List.range len).map f, rfl, by simp, hlen, fun j hj => ?_⟩
    have hj' : j < len := by simpa using hj
    simpa using hf j hj'

set_option maxRecDepth 100000 in
/-- A pattern among the arguments. -/
theorem pat_of_trod {H : Type} {enc : TypeId × Value → H} {W : World} {v : Value} {d : DataW H} {p : List MemPlace} {r : Reach} {base : Nat} (hv : Value.okWide Tryz.prog W r base 26 v)
    (h : DataW.Trod enc Tryz.prog W 0 (fun _ => true) true 26 v d p) (hw : ∀ k ∈ d.weights Tryz.prog 26, k ≤ 140737488351232) :
    ∃ nm a0 n0 c0 a1 n1 c1 al nl cl b0 b1 ls, v = .agg #[.string nm, .slice a0 n0 c0, .slice a1 n1 c1, .slice al nl cl] ∧ nm.size ≤ maxLen ∧ Is W a0 n0 b0 ∧ Is W a1 n1 b1 ∧ Lns W al nl ls ∧ n0 ≤ 140737488351232 ∧ n1 ≤ 140737488351232 := by
  obtain ⟨cs, hvc, hsz⟩ := okWide_struct (P := Tryz.prog) (w := W) (r := r) (base := base) (t := 26) (v := v) Tryz.underlying26 hv
  subst hvc
  have h26 : Tryz.prog.cellsOf 26 = 4 := by kernel_rfl
  rw [h26] at hsz
  obtain ⟨fuel, hf⟩ := h
  obtain ⟨l⟩ := cs
  simp at hsz
  obtain ⟨v0, v1, v2, v3, rfl⟩ : ∃ v0 v1 v2 v3, l = [v0, v1, v2, v3] := by
    match l, hsz with
    | [v0, v1, v2, v3], _ => exact ⟨_, _, _, _, rfl⟩
  simp only [Value.cells] at hf
  obtain ⟨xs, n, rfl, hx, _, hxl, hi⟩ := DataW.trod_struct Tryz.underlying26 hf
  obtain ⟨x0, x1, x2, rfl⟩ : ∃ x0 x1 x2, xs = [x0, x1, x2] := by
    match xs, hxl with
    | [x0, x1, x2], _ => exact ⟨_, _, _, rfl⟩
  have f0 := hi 0 { name := "Name", type := 9, offset := 0, embedded := false, tag := "", pkgPath := "", byteOffset := 0 } rfl
  have f1 := hi 1 { name := "Before", type := 23, offset := 1, embedded := false, tag := "", pkgPath := "", byteOffset := 16 } rfl
  have f2 := hi 2 { name := "Lines", type := 24, offset := 3, embedded := false, tag := "", pkgPath := "", byteOffset := 64 } rfl
  simp only [show Tryz.prog.cellsOf 9 = 1 by kernel_rfl, show Tryz.prog.cellsOf 23 = 2 by kernel_rfl, show Tryz.prog.cellsOf 24 = 1 by kernel_rfl, List.drop, List.take, List.getElem?_cons_zero, List.getElem?_cons_succ] at f0 f1 f2
  obtain rfl : d = _ := (Prod.mk.inj hx).1
  simp only [DataW.weights, Tryz.underlying26, List.map_cons, List.map_nil, DataW.weightsEach, List.mem_append] at hw
  obtain ⟨s, hs, _, hsm⟩ := DataW.trod_string Tryz.underlying9 f0
  obtain rfl : v0 = .string s := by simpa using hs
  obtain ⟨a0, n0, c0', ls, rfl, hls⟩ := lns_of_cells f2 (fun k hk => hw k (.inr (.inr (.inl hk))))
  obtain ⟨ys, m, rfl, hy, _, hyl, hj⟩ := DataW.trod_array Tryz.underlying23 f1
  obtain ⟨y0, y1, rfl⟩ : ∃ y0 y1, ys = [y0, y1] := by
    match ys, hyl with
    | [y0, y1], _ => exact ⟨_, _, rfl⟩
  have g0 := hj 0 (by decide)
  have g1 := hj 1 (by decide)
  simp only [show Tryz.prog.cellsOf 22 = 1 by kernel_rfl, List.drop, List.getElem?_cons_zero, List.getElem?_cons_succ, Nat.zero_mul, Nat.one_mul] at g0 g1
  obtain rfl : x1 = _ := hy
  simp only [DataW.weights, Tryz.underlying23, List.map_cons, List.map_nil, DataW.weightsAll, List.mem_append] at hw
  obtain ⟨p0, q0, r0, b0, rfl, hb0, hq0⟩ := is_of_cells g0 (fun k hk => hw k (.inr (.inl (.inl hk))))
  obtain ⟨p1, q1, r1, b1, rfl, hb1, hq1⟩ := is_of_cells g1 (fun k hk => hw k (.inr (.inl (.inr (.inl hk)))))
  exact ⟨s, p0, q0, r0, p1, q1, r1, a0, n0, c0', b0, b1, ls, rfl, hsm, hb0, hb1, hls, hq0, hq1⟩
end Go.Proofs.YtkmejehhdjdlbaaGreatDoor

namespace Go.Proofs.YtkmejehhdjdlbaaGreatDoor
open Go.ChangeShapes Go.WideShapes Go.RowKit

theorem trodAll_stays {H : Type} {enc : TypeId × Value → H} {P : Program} (hl : laidOutB P = true) {W W' : World} (hb : Kp W W') : ∀ {ts : List TypeId} {vs : List Value} {ds : List (DataW H)} {ps : List MemPlace},
    (∀ t ∈ ts, P.readableRec t = true ∧ t < P.types.size) → DataW.TrodAll enc P W 0 (fun _ => true) true ts vs ds ps → (∀ x ∈ ps, x.block < W.heap.size) →
    DataW.TrodAll enc P W' 0 (fun b => decide (b < W.heap.size)) true ts vs ds ps
  | [], [], [], _, _, h, _ => h
  | t :: ts, v :: vs, d :: ds, ps, ht, h, hlt => by
    obtain ⟨p, q, h1, h2, rfl⟩ := h
    have h3 := ht t (by simp)
    exact ⟨p, q, Below.trod hl h3.1 h3.2 h1 hb (fun x hx => hlt x (by simp [hx])), trodAll_stays hl hb (fun t' ht' => ht t' (by simp [ht'])) h2 (fun x hx => hlt x (by simp [hx])), rfl⟩
  | [], [], _ :: _, _, _, h, _ => h.elim
  | [], _ :: _, _, _, _, h, _ => by cases h
  | _ :: _, [], _, _, _, h, _ => by cases h
  | _ :: _, _ :: _, [], _, _, h, _ => by cases h

theorem law_post {H : Type} {enc : TypeId × Value → H} {P : Program} {fn : Func} {s : ChangeSpec} {W W' : World} {args : Array Value} {ds gs : List (DataW H)} {before : List MemPlace} {bt : TypeId}
    (hl : laidOutB P = true) (htb : (fn.params.toList.all fun t => P.readableRec t && decide (t < P.types.size)) = true) (hv : s.vars = []) (hres : fn.resultTypes = #[bt]) (hbt : P.underlying bt = some .bool)
    (hW : DataW.Whole enc P fn.params.toList s.vars false W args.toList ds gs before) (hs : s.fn H (ds ++ []) = { results := [.lit (.bool true)], args := ds }) (hk : Kp W W') :
    s.post enc P fn false true false false W args (.bool true) W' := by
  have hts : ∀ t ∈ fn.params.toList, P.readableRec t = true ∧ t < P.types.size := fun t ht => by
    have := List.all_eq_true.1 htb t ht
    simpa using this
  have hW0 := hW
  obtain ⟨p, q, hA, hV, rfl, hfz, _⟩ := hW
  rw [hv] at hV
  obtain ⟨rfl, rfl⟩ := trodVars_none hV
  have hlt : ∀ x ∈ p, x.block < W.heap.size := hA.lt
  refine ⟨ds, [], p ++ [], [], p, [], hW0, ?_, ?_, ?_, hk.frame _, fun h => by cases h⟩
  · rw [hs, hres]
    exact trodAll_mk1 (shut_bool hbt true)
  · rw [hs]
    exact trodAll_stays hl hk hts hA hlt
  · rw [hs, hv]; rfl

theorem Tryz.own : ownKnob Tryz.prog.godebug = none := by kernel_rfl
theorem Tryz.laidOut : laidOutB Tryz.prog = true := by kernel_rfl
theorem cells125 : Tryz.prog.cellsOf 231 = 1 := by kernel_rfl
theorem cells9 : Tryz.prog.cellsOf 9 = 1 := by kernel_rfl
theorem star : "*" ++ "errors.errorString" = "*errors.errorString" := by decide
theorem row107 (u : TypeId) (h : Tryz.prog.typeName? 3 u = some "*errors.errorString") : u = 229 :=
  typeName_ptr_named (nm := "errors.errorString") (by rw [star]; kernel_rfl) (by kernel_rfl) (by decide) u (by rw [star]; exact h)

end Go.Proofs.YtkmejehhdjdlbaaGreatDoor

namespace Go.Proofs.YtkmejehhdjdlbaaGreatDoor
open Go.ChangeShapes Go.WideShapes Go.RowKit Go.Deep

theorem str_small {H : Type} {s : ByteArray} (hw : ∀ k ∈ (DataW.lit (.string s.data.toList) : DataW H).weights Tryz.prog 9, k ≤ 140737488351232) : s.size ≤ 140737488351232 := by
  rw [show s.size = s.data.toList.length from rfl]
  exact hw _ (by simp [DataW.weights])
end Go.Proofs.YtkmejehhdjdlbaaGreatDoor

namespace Go.Proofs.YtkmejehhdjdlbaaGreatDoor
open Go.RowKit

/-- A slice's parts. -/
structure Tv where
  ao : Option Addr
  n : Nat
  c : Nat
def tvv (t : Tv) : Value := .slice t.ao t.n t.c
/-- The cells of a list of messages. -/
def lnc : List Ln → List Tv → List Value
  | l :: r, t :: s => iv l.1 :: tvv t :: lnc r s
  | _, _ => []
theorem lnc_length : ∀ {ls : List Ln} {ts : List Tv}, ts.length = ls.length → (lnc ls ts).length = ls.length * 2
  | [], [], _ => rfl
  | l :: r, t :: s, h => by
    simp only [lnc, List.length_cons] at h ⊢
    rw [lnc_length (by omega)]; omega
theorem lnc_append : ∀ {ls : List Ln} {ts : List Tv} (l : Ln) (t : Tv), ts.length = ls.length → lnc (ls ++ [l]) (ts ++ [t]) = lnc ls ts ++ [iv l.1, tvv t]
  | [], [], _, _, _ => rfl
  | l :: r, t :: s, l', t', h => by
    simp only [List.length_cons] at h
    simp only [lnc, List.cons_append]
    rw [lnc_append l' t' (by omega)]
theorem lnc_get : ∀ {ls : List Ln} {ts : List Tv} (h : ts.length = ls.length) (j : Nat) (hj : j < ls.length), (lnc ls ts)[j * 2]? = some (iv ls[j].1) ∧ (lnc ls ts)[j * 2 + 1]? = some (tvv (ts[j]'(by omega)))
  | l :: r, t :: s, h, 0, _ => ⟨rfl, rfl⟩
  | l :: r, t :: s, h, j + 1, hj => by
    simp only [List.length_cons] at h hj
    have := lnc_get (ls := r) (ts := s) (by omega) j (by omega)
    simp only [lnc, List.getElem_cons_succ]
    rw [show (j + 1) * 2 = j * 2 + 1 + 1 by omega]
    exact this

theorem Own.is {w : World} {base : Nat} {e : TypeId} {ao : Option Addr} {n cap : Nat} {xs : List Int} (h : Own w base e 1 ao n cap (xs.map iv)) : Is w ao n xs := by
  have hl := h.1
  refine ⟨by simpa using hl, ?_, h.cs⟩
  rcases h.2 with ⟨_, hn⟩ | ⟨g, cap', cur, hv, _, _, h1, h2, _⟩
  · omega
  · exact Nat.le_trans h1 h2
theorem Own.store {w : World} {base : Nat} {e : TypeId} {size : Nat} {g : Nat} {n cap : Nat} {xs : List Value} (h : Own w base e size (some ⟨g, 0, none⟩) n cap xs) (j : Nat) (u : Value) :
    Own (w.setCell ⟨g, j, none⟩ u) base e size (some ⟨g, 0, none⟩) n cap (xs.set j u) := (World.ownsRow.stored h j u).1
theorem Own.cell {w : World} {base : Nat} {e : TypeId} {size : Nat} {g : Nat} {n cap : Nat} {xs : List Value} (h : Own w base e size (some ⟨g, 0, none⟩) n cap xs) (j : Nat) (hj : j < n * size) : w.cell? ⟨g, j, none⟩ = xs[j]? := World.ownsRow.cellAt h j hj
theorem Own.free {w : World} {base : Nat} {e : TypeId} {size : Nat} {g : Nat} {n cap : Nat} {xs : List Value} (h : Own w base e size (some ⟨g, 0, none⟩) n cap xs) (j : Nat) : w.frozen? ⟨g, j, none⟩ = false := World.ownsRow.frozenAt h j

theorem getD_lt {α : Type} (l : List α) (d : α) {i : Nat} (h : i < l.length) : l.getD i d = l[i] := by simp [List.getD_eq_getElem?_getD, List.getElem?_eq_getElem h]
theorem getD_ge {α : Type} (l : List α) (d : α) {i : Nat} (h : l.length ≤ i) : l.getD i d = d := by simp [List.getD_eq_getElem?_getD, List.getElem?_eq_none h]
def nilT : Tv := ⟨none, 0, 0⟩
/-- No two rows lie in one block. -/
def Disj (rows : List Tv) : Prop := ∀ i j x, x ∈ blkL (rows.getD i nilT).ao → x ∈ blkL (rows.getD j nilT).ao → i = j
theorem Disj.upd {rows rows' : List Tv} {s k : Nat} (h : Disj rows) (hlt : ∀ i, i ≠ k → ∀ x ∈ blkL (rows.getD i nilT).ao, x < s) (heq : ∀ i, i ≠ k → rows'.getD i nilT = rows.getD i nilT)
    (hk : ∀ x ∈ blkL (rows'.getD k nilT).ao, x ∈ blkL (rows.getD k nilT).ao ∨ s ≤ x) : Disj rows' := by
  intro i j x hi hj
  by_cases h1 : i = k
  · by_cases h2 : j = k
    · rw [h1, h2]
    · subst h1
      rw [heq j h2] at hj
      rcases hk x hi with q | q
      · exact h i j x q hj
      · have := hlt j h2 x hj; omega
  · by_cases h2 : j = k
    · subst h2
      rw [heq i h1] at hi
      rcases hk x hj with q | q
      · exact h i j x hi q
      · have := hlt i h1 x hi; omega
    · rw [heq i h1] at hi
      rw [heq j h2] at hj
      exact h i j x hi hj

/-- A pattern of the call's own. -/
structure PatO (w : World) (B : Nat) (t0 t1 tl : Tv) (ts : List Tv) (b0 b1 : List Int) (ls : List Ln) : Prop where
  len : ts.length = ls.length
  o0 : Own w B 3 1 t0.ao t0.n t0.c (b0.map iv)
  o1 : Own w B 3 1 t1.ao t1.n t1.c (b1.map iv)
  ol : Own w B 73 2 tl.ao tl.n tl.c (lnc ls ts)
  ot : ∀ (j : Nat) (t : Tv) (l : Ln), ts[j]? = some t → ls[j]? = some l → Own w B 3 1 t.ao t.n t.c (l.2.map iv)
  dj : Disj (t0 :: t1 :: tl :: ts)
theorem PatO.nil (w : World) (B : Nat) : PatO w B nilT nilT nilT [] [] [] [] :=
  ⟨rfl, Own.nil _ _ _ _, Own.nil _ _ _ _, Own.nil _ _ _ _, fun j t l h => by simp at h, fun i j x hi => by
    rcases i with _ | _ | _ | i <;> simp [nilT, blkL, blk] at hi⟩
section
variable {w w' : World} {B : Nat} {t0 t1 tl : Tv} {ts : List Tv} {b0 b1 : List Int} {ls : List Ln}
theorem PatO.n0 (h : PatO w B t0 t1 tl ts b0 b1 ls) : t0.n = b0.length := by have := h.o0.1; simp at this; omega
theorem PatO.n1 (h : PatO w B t0 t1 tl ts b0 b1 ls) : t1.n = b1.length := by have := h.o1.1; simp at this; omega
theorem PatO.nl (h : PatO w B t0 t1 tl ts b0 b1 ls) : tl.n = ls.length := by have := h.ol.1; rw [lnc_length h.len] at this; omega
theorem PatO.row {i : Nat} {x : Nat} (h : PatO w B t0 t1 tl ts b0 b1 ls) (hx : x ∈ blkL ((t0 :: t1 :: tl :: ts).getD i nilT).ao) : B ≤ x ∧ x < w.heap.size := by
  rcases i with _ | _ | _ | i
  · exact h.o0.lt x (mem_blkL.1 hx)
  · exact h.o1.lt x (mem_blkL.1 hx)
  · exact h.ol.lt x (mem_blkL.1 hx)
  · simp only [List.getD_cons_succ] at hx
    by_cases hi : i < ts.length
    · have hl : i < ls.length := by rw [← h.len]; exact hi
      rw [getD_lt _ _ hi] at hx
      exact (h.ot i _ _ (List.getElem?_eq_getElem hi) (List.getElem?_eq_getElem hl)).lt x (mem_blkL.1 hx)
    · rw [getD_ge _ _ (by omega)] at hx
      simp [nilT, blkL, blk] at hx
theorem PatO.fr {X : List Nat} (h : PatO w B t0 t1 tl ts b0 b1 ls) (k : Fr X w w') (hX : ∀ x ∈ X, x < B ∨ w.heap.size ≤ x) : PatO w' B t0 t1 tl ts b0 b1 ls := by
  have hd : ∀ i, ∀ x ∈ blkL ((t0 :: t1 :: tl :: ts).getD i nilT).ao, x ∉ X := fun i x hx hq => by have := h.row hx; have := hX x hq; omega
  refine ⟨h.len, k.own h.o0 (hd 0), k.own h.o1 (hd 1), k.own h.ol (hd 2), fun j t l ht hl => k.own (h.ot j t l ht hl) (fun x hx => hd (j + 3) x ?_), h.dj⟩
  have hj := (List.getElem?_eq_some_iff.1 ht)
  obtain ⟨hj, rfl⟩ := hj
  simp only [List.getD_cons_succ]
  rw [getD_lt _ _ hj]; exact hx
theorem PatO.kp (h : PatO w B t0 t1 tl ts b0 b1 ls) (k : Kp w w') : PatO w' B t0 t1 tl ts b0 b1 ls := h.fr (Fr.of_kp k) (by simp)
theorem PatO.is0 (h : PatO w B t0 t1 tl ts b0 b1 ls) : Is w t0.ao t0.n b0 := h.o0.is
theorem PatO.is1 (h : PatO w B t0 t1 tl ts b0 b1 ls) : Is w t1.ao t1.n b1 := h.o1.is
theorem PatO.lns (h : PatO w B t0 t1 tl ts b0 b1 ls) (hn : ls.length ≤ 1000) (ht : ∀ l ∈ ls, l.2.length ≤ 1000) : Lns w tl.ao tl.n ls := by
  refine ⟨h.nl.symm, by have := h.nl; omega, fun j hj => ?_⟩
  obtain ⟨b, off, e, hc⟩ := h.ol.cs.at (j * 2) (by rw [lnc_length h.len]; omega)
  obtain ⟨g0, g1⟩ := lnc_get h.len j hj
  have hj' : j < ts.length := by rw [h.len]; exact hj
  have ho := h.ot j _ _ (List.getElem?_eq_getElem hj') (List.getElem?_eq_getElem hj)
  have h1 := ho.1
  have h2 := ht _ (List.getElem_mem hj)
  simp at h1
  exact ⟨b, off, _, _, _, e, hc _ _ g0, by have := hc _ _ g1; rwa [← Nat.add_assoc] at this, ho.is, by omega⟩

/-- One row has grown; the others are as they were. -/
theorem PatO.others {k : Nat} (h : PatO w B t0 t1 tl ts b0 b1 ls) (_f : Fr (blkL ((t0 :: t1 :: tl :: ts).getD k nilT).ao) w w') (i : Nat) (hi : i ≠ k) : ∀ x ∈ blkL ((t0 :: t1 :: tl :: ts).getD i nilT).ao, x ∉ blkL ((t0 :: t1 :: tl :: ts).getD k nilT).ao :=
  fun x hx hq => hi (h.dj i k x hx hq)
end

end Go.Proofs.YtkmejehhdjdlbaaGreatDoor

namespace Go.Proofs.YtkmejehhdjdlbaaGreatDoor
open Go.RowKit

set_option maxHeartbeats 2000000 in
theorem exec_load3 {w : World} {p : Addr} {f : Int} (h : w.cell? p = some (iv f)) {ρ : Operand → Value} {x : Operand} (hx : ρ x = .pointer (some p)) {o : Oper} (ho : o.op = .load 3 x) : (execOp ρ o).run Tryz.prog w = .ok (.value (iv f)) w := by
  simp only [execOp, ho, hx]
  go_simp
set_option maxHeartbeats 2000000 in
theorem exec_load22 {w : World} {p : Addr} {a : Option Addr} {n c : Nat} (h : w.cell? p = some (.slice a n c)) {ρ : Operand → Value} {x : Operand} (hx : ρ x = .pointer (some p)) {o : Oper} (ho : o.op = .load 22 x) : (execOp ρ o).run Tryz.prog w = .ok (.value (.slice a n c)) w := by
  simp only [execOp, ho, hx]
  go_simp
set_option maxHeartbeats 2000000 in
theorem exec_load24 {w : World} {p : Addr} {a : Option Addr} {n c : Nat} (h : w.cell? p = some (.slice a n c)) {ρ : Operand → Value} {x : Operand} (hx : ρ x = .pointer (some p)) {o : Oper} (ho : o.op = .load 24 x) : (execOp ρ o).run Tryz.prog w = .ok (.value (.slice a n c)) w := by
  simp only [execOp, ho, hx]
  go_simp
end Go.Proofs.YtkmejehhdjdlbaaGreatDoor

namespace Go.Proofs.YtkmejehhdjdlbaaGreatDoor
open Go.RowKit

section
variable {w w' : World} {B : Nat} {t0 t1 tl : Tv} {ts : List Tv} {b0 b1 : List Int} {ls : List Ln}
/-- A whole message more, whose tokens lie in younger memory. -/
theorem PatO.appw {ao' : Option Addr} {cap' N s : Nat} {l : Ln} {t : Tv} (h : PatO w B t0 t1 tl ts b0 b1 ls) (ho : Own w B 3 1 t.ao t.n t.c (l.2.map iv))
    (hs : ∀ i, ∀ y ∈ blkL ((t0 :: t1 :: tl :: ts).getD i nilT).ao, y < s) (ht : ∀ y ∈ blkL t.ao, s ≤ y)
    (ha : Appd w w' B 73 2 tl.ao tl.c 1 N (lnc (ls ++ [l]) (ts ++ [t])) ao' cap') : PatO w' B t0 t1 ⟨ao', N, cap'⟩ (ts ++ [t]) b0 b1 (ls ++ [l]) := by
  have fr := ha.fr
  have hx := fun i hi => PatO.others (k := 2) h fr i hi
  have hn : ∀ y ∈ blkL t.ao, y ∉ blkL tl.ao := fun y hy hq => by have := ht y hy; have := hs 2 y hq; omega
  have hlt := fun y hy => ho.lt y (mem_blkL.1 hy)
  refine ⟨by simp [h.len], fr.own h.o0 (hx 0 (by simp)), fr.own h.o1 (hx 1 (by simp)), ha.own, fun j t' l' ht' hl' => ?_, ?_⟩
  · rcases Nat.lt_or_ge j ts.length with hj | hj
    · rw [List.getElem?_append_left hj] at ht'
      rw [List.getElem?_append_left (by rw [← h.len]; exact hj)] at hl'
      refine fr.own (h.ot j t' l' ht' hl') (fun x hx' => hx (j + 3) (by simp) x ?_)
      obtain ⟨hj, rfl⟩ := (List.getElem?_eq_some_iff.1 ht')
      simp only [List.getD_cons_succ]
      rw [getD_lt _ _ hj]; exact hx'
    · rw [List.getElem?_append_right hj] at ht'
      rw [List.getElem?_append_right (by rw [← h.len]; exact hj)] at hl'
      have e1 := List.mem_of_getElem? ht'
      have e2 := List.mem_of_getElem? hl'
      simp only [List.mem_singleton] at e1 e2
      subst e1; subst e2
      exact fr.own ho hn
  · have hdj : Disj (t0 :: t1 :: tl :: (ts ++ [t])) := by
      refine h.dj.upd (s := s) (k := ts.length + 3) (fun i _ => hs i) (fun i hi => ?_) (fun x hx' => ?_)
      · rcases i with _ | _ | _ | i
        · rfl
        · rfl
        · rfl
        · simp only [List.getD_cons_succ]
          rw [List.getD_eq_getElem?_getD, List.getD_eq_getElem?_getD]
          rcases Nat.lt_or_ge i ts.length with hj | hj
          · rw [List.getElem?_append_left hj]
          · rw [List.getElem?_eq_none (by simp; omega), List.getElem?_eq_none (by omega)]
      · have hkey : ((t0 :: t1 :: tl :: (ts ++ [t])).getD (ts.length + 3) nilT) = t := by simp
        rw [hkey] at hx'
        exact .inr (ht x hx')
    refine hdj.upd (s := w.heap.size) (k := 2) (fun i _ x hx' => ?_) (fun i hi => ?_) (fun x hx' => ?_)
    · rcases i with _ | _ | _ | i
      · exact (h.row (i := 0) hx').2
      · exact (h.row (i := 1) hx').2
      · exact (h.row (i := 2) hx').2
      · simp only [List.getD_cons_succ] at hx'
        rcases Nat.lt_or_ge i (ts ++ [t]).length with hj | hj
        · rw [getD_lt _ _ hj] at hx'
          rcases Nat.lt_or_ge i ts.length with hi' | hi'
          · rw [List.getElem_append_left hi'] at hx'
            exact (h.row (i := i + 3) (by simp only [List.getD_cons_succ]; rw [getD_lt _ _ hi']; exact hx')).2
          · rw [List.getElem_append_right hi'] at hx'
            simp only [List.getElem_singleton] at hx'
            exact (hlt x hx').2
        · rw [getD_ge _ _ hj] at hx'
          simp [nilT, blkL, blk] at hx'
    · rcases i with _ | _ | _ | i
      · rfl
      · rfl
      · exact absurd rfl hi
      · rfl
    · rcases ha.fresh x (mem_blkL.1 hx') with q | q
      · exact .inl (mem_blkL.2 q)
      · exact .inr (by omega)
/-- Two rows of it, apart from one another, as what is known ahead. -/
theorem PatO.pick {u0 u1 : Tv} {c0 c1 : List Int} (h : PatO w B t0 t1 tl ts b0 b1 ls) (h0 : Own w B 3 1 u0.ao u0.n u0.c (c0.map iv)) (h1 : Own w B 3 1 u1.ao u1.n u1.c (c1.map iv))
    (i j : Nat) (hij : i ≠ j) (hi : (t0 :: t1 :: tl :: ts).getD i nilT = u0) (hj : (t0 :: t1 :: tl :: ts).getD j nilT = u1) : PatO w B u0 u1 nilT [] c0 c1 [] := by
  have hab : ∀ x, x ∈ blkL u0.ao → x ∈ blkL u1.ao → False := fun x hx hy => hij (h.dj i j x (by rw [hi]; exact hx) (by rw [hj]; exact hy))
  refine ⟨rfl, h0, h1, Own.nil _ _ _ _, fun j t l ht => by simp at ht, fun p q x hp hq => ?_⟩
  rcases p with _ | _ | _ | p <;> rcases q with _ | _ | _ | q <;> first
    | rfl
    | (simp [nilT, blkL, blk] at hp; done)
    | (simp [nilT, blkL, blk] at hq; done)
    | exact (hab x hp hq).elim
    | exact (hab x hq hp).elim
end

/-- What is known ahead when these messages have been put there. -/
def selT : List Ln → List Tv → Tv × Tv → Tv × Tv
  | l :: ls, t :: ts, p => selT ls ts (if l.1 = 0 then (t, p.2) else (p.1, t))
  | _, _, p => p
theorem selT_step : ∀ {ls : List Ln} {ts : List Tv} {k : Nat} {l : Ln} {t : Tv} (p : Tv × Tv), ls[k]? = some l → ts[k]? = some t →
    selT (ls.take (k + 1)) (ts.take (k + 1)) p = if l.1 = 0 then (t, (selT (ls.take k) (ts.take k) p).2) else ((selT (ls.take k) (ts.take k) p).1, t) := by
  intro ls
  induction ls with
  | nil => intro ts k l t p h; simp at h
  | cons a r ih =>
    intro ts k l t p h h2
    cases ts with
    | nil => simp at h2
    | cons b r2 =>
      rcases k with _ | k
      · simp at h h2
        subst h; subst h2
        simp [selT]
      · simp only [List.getElem?_cons_succ] at h h2
        simp only [List.take_succ_cons, selT]
        exact ih _ h h2
theorem selT_all (ls : List Ln) (ts : List Tv) (p : Tv × Tv) (h : ts.length = ls.length) : selT (ls.take ls.length) (ts.take ls.length) p = selT ls ts p := by
  rw [List.take_length, ← h, List.take_length]
/-- The row of three dots, in memory. -/
theorem PatO.moved {w : World} {B : Nat} {t0 t1 tl : Tv} {ts : List Tv} {S : Q.Rd} (h : PatO w B t0 t1 tl ts S.b0 S.b1 S.ls) (hf : ∀ l ∈ S.ls, l.1 = 0 ∨ l.1 = 1) (hr : Q.restOk S = true) :
    PatO w B (selT S.ls ts (t0, t1)).1 (selT S.ls ts (t0, t1)).2 nilT [] (Q.moved S).b0 (Q.moved S).b1 (Q.moved S).ls := by
  obtain ⟨b0, b1, ls, rest⟩ := S
  simp only [Q.restOk, Bool.and_eq_true] at hr
  obtain ⟨_, hr⟩ := hr
  have hlen := h.len
  rcases ls with _ | ⟨a, _ | ⟨b, _ | ⟨c, r⟩⟩⟩
  · simp at hr
  · obtain ⟨t, rfl⟩ : ∃ t, ts = [t] := by
      rcases ts with _ | ⟨t, _ | ⟨u, r⟩⟩ <;> simp at hlen
      exact ⟨t, rfl⟩
    have ho := h.ot 0 t a rfl rfl
    by_cases ha : a.1 = 0
    · simp only [selT, if_pos ha, Q.moved, List.foldl_cons, List.foldl_nil]
      exact h.pick ho h.o1 3 1 (by omega) rfl rfl
    · simp only [selT, if_neg ha, Q.moved, List.foldl_cons, List.foldl_nil]
      exact h.pick h.o0 ho 0 3 (by omega) rfl rfl
  · obtain ⟨t, u, rfl⟩ : ∃ t u, ts = [t, u] := by
      rcases ts with _ | ⟨t, _ | ⟨u, _ | ⟨v, r⟩⟩⟩ <;> simp at hlen
      exact ⟨t, u, rfl⟩
    have ho := h.ot 0 t a rfl rfl
    have hp := h.ot 1 u b rfl rfl
    have hlt : a.1 < b.1 := of_decide_eq_true hr
    have h1 := hf a (by simp)
    have h2 := hf b (by simp)
    have ha : a.1 = 0 := by omega
    have hb : ¬ b.1 = 0 := by omega
    simp only [selT, if_pos ha, if_neg hb, Q.moved, List.foldl_cons, List.foldl_nil]
    exact h.pick ho hp 3 4 (by omega) rfl rfl
  · simp at hr
theorem lineP_from {s : Q.Bt} {l : Ln} (h : Q.lineP s = some l) : l.1 = 0 ∨ l.1 = 1 := by
  unfold Q.lineP at h
  split at h
  · cases hw : Q.wordsT (Lib.split (s.drop 5) Q.comma) with
    | none => rw [hw] at h; simp at h
    | some x => rw [hw] at h; simp only [Option.map_some, Option.some.injEq] at h; exact .inl (by rw [← h])
  · split at h
    · cases hw : Q.wordsT (Lib.split (s.drop 5) Q.comma) with
      | none => rw [hw] at h; simp at h
      | some x => rw [hw] at h; simp only [Option.map_some, Option.some.injEq] at h; exact .inr (by rw [← h])
    · cases h
end Go.Proofs.YtkmejehhdjdlbaaGreatDoor

namespace Go.Proofs.YtkmejehhdjdlbaaGreatDoor.Q
end Go.Proofs.YtkmejehhdjdlbaaGreatDoor.Q

namespace Go.Proofs.YtkmejehhdjdlbaaGreatDoor.Q

/-- How often a token stands in a side's lists. -/
def cntS (b : List Int) (f : Int) (xs : List (Int × Int)) (t : Int) : Nat := b.count t + xs.count (f, t)
/-- How often it stands in the messages. -/
def cntT (xs : List (Int × Int)) (t : Int) : Nat := xs.countP (fun x => x.2 == t)
/-- What the state says of what has stood so far. -/
structure Inv (b0 b1 : List Int) (xs : List (Int × Int)) (S : Nat → Bool) : Prop where
  k0 : ∀ t, t = 1 ∨ t = 2 → cntS b0 0 xs t ≤ 1 ∧ (S t.toNat = true ↔ cntS b0 0 xs t = 1)
  k1 : ∀ t, t = 1 ∨ t = 2 → cntS b1 1 xs t ≤ 1 ∧ (S (3 + t).toNat = true ↔ cntS b1 1 xs t = 1)
  sec : ∀ t, t = 3 ∨ t = 4 ∨ t = 5 ∨ t = 6 → cntT xs t ≤ 1 ∧ (S (6 + t).toNat = true ↔ cntT xs t = 1) ∧ (cntT xs t = 1 → cntS b0 0 xs (wantI t) = 1 ∧ cntS b1 1 xs (wantR t) = 1)
theorem cntS_snoc (b : List Int) (f : Int) (xs : List (Int × Int)) (g t u : Int) : cntS b f (xs ++ [(g, u)]) t = cntS b f xs t + if g = f ∧ u = t then 1 else 0 := by
  unfold cntS
  rw [List.count_append, List.count_singleton]
  by_cases h : g = f ∧ u = t
  · obtain ⟨rfl, rfl⟩ := h; simp; omega
  · rw [if_neg h, if_neg (by simpa [Prod.ext_iff] using h)]; omega
theorem cntT_snoc (xs : List (Int × Int)) (g t u : Int) : cntT (xs ++ [(g, u)]) t = cntT xs t + if u = t then 1 else 0 := by
  unfold cntT
  rw [List.countP_append, List.countP_singleton]
  by_cases h : u = t <;> simp [h]
theorem want_of (t : Int) (h : t = 3 ∨ t = 4 ∨ t = 5 ∨ t = 6) : (wantI t = 1 ∨ wantI t = 2) ∧ (wantR t = 1 ∨ wantR t = 2) := by
  rcases h with rfl | rfl | rfl | rfl <;> decide
theorem Inv.step {b0 b1 : List Int} {xs : List (Int × Int)} {S : Nat → Bool} (h : Inv b0 b1 xs S) {f t : Int} (hf : f = 0 ∨ f = 1) (ht : 1 ≤ t) (ht' : t ≤ 7) {last : Bool} (ho : offL S f t last = 0) :
    Inv b0 b1 (xs ++ [(f, t)]) (tookL S f t) := by
  have hcases : t = 1 ∨ t = 2 ∨ t = 3 ∨ t = 4 ∨ t = 5 ∨ t = 6 ∨ t = 7 := by omega
  have h1 : ((keyT t && S (3 * f + t).toNat) || (isSec t && S (6 + t).toNat)) = false := by
    cases hq : ((keyT t && S (3 * f + t).toNat) || (isSec t && S (6 + t).toNat)) with
    | false => rfl
    | true => unfold offL at ho; rw [hq] at ho; simp at ho
  have h2 : (isSec t && (!S (wantI t).toNat || !S (3 + wantR t).toNat)) = false := by
    cases hq : (isSec t && (!S (wantI t).toNat || !S (3 + wantR t).toNat)) with
    | false => rfl
    | true => unfold offL at ho; rw [h1, hq] at ho; simp at ho
  clear ho
  have key : ∀ (side u : Int), (side = 0 ∨ side = 1) → (u = 1 ∨ u = 2) → tookL S f t (3 * side + u).toNat = (S (3 * side + u).toNat || (decide (f = side) && decide (t = u))) := by
    intro side u hs hu
    rcases hs with rfl | rfl <;> rcases hu with rfl | rfl <;> rcases hf with rfl | rfl <;> rcases hcases with rfl | rfl | rfl | rfl | rfl | rfl | rfl <;> simp [tookL, upd, keyT]
  have sec : ∀ u : Int, (u = 3 ∨ u = 4 ∨ u = 5 ∨ u = 6) → tookL S f t (6 + u).toNat = (S (6 + u).toNat || decide (t = u)) := by
    intro u hu
    rcases hu with rfl | rfl | rfl | rfl <;> rcases hf with rfl | rfl <;> rcases hcases with rfl | rfl | rfl | rfl | rfl | rfl | rfl <;> simp [tookL, upd, keyT]
  have K0 : ∀ u, u = 1 ∨ u = 2 → cntS b0 0 (xs ++ [(f, t)]) u ≤ 1 ∧ (tookL S f t u.toNat = true ↔ cntS b0 0 (xs ++ [(f, t)]) u = 1) := by
    intro u hu
    have := h.k0 u hu
    have e := key 0 u (.inl rfl) hu
    simp only [Int.mul_zero, Int.zero_add] at e
    rw [e, cntS_snoc]
    by_cases hq : f = 0 ∧ t = u
    · obtain ⟨rfl, rfl⟩ := hq
      have hn : S t.toNat = false := by
        have hk : keyT t = true := by rcases hu with rfl | rfl <;> rfl
        rw [hk] at h1
        simpa using (Bool.or_eq_false_iff.1 h1).1
      have : cntS b0 0 xs t ≠ 1 := fun hc => by rw [(this.2).2 hc] at hn; cases hn
      simp; omega
    · rw [if_neg hq]
      have : (decide (f = 0) && decide (t = u)) = false := by simpa using hq
      rw [this]; simpa using h.k0 u hu
  have K1 : ∀ u, u = 1 ∨ u = 2 → cntS b1 1 (xs ++ [(f, t)]) u ≤ 1 ∧ (tookL S f t (3 + u).toNat = true ↔ cntS b1 1 (xs ++ [(f, t)]) u = 1) := by
    intro u hu
    have := h.k1 u hu
    have e := key 1 u (.inr rfl) hu
    simp only [Int.mul_one] at e
    rw [e, cntS_snoc]
    by_cases hq : f = 1 ∧ t = u
    · obtain ⟨rfl, rfl⟩ := hq
      have hn : S (3 + t).toNat = false := by
        have hk : keyT t = true := by rcases hu with rfl | rfl <;> rfl
        rw [hk] at h1
        simpa using (Bool.or_eq_false_iff.1 h1).1
      have : cntS b1 1 xs t ≠ 1 := fun hc => by rw [(this.2).2 hc] at hn; cases hn
      simp; omega
    · rw [if_neg hq]
      have : (decide (f = 1) && decide (t = u)) = false := by simpa using hq
      rw [this]; simpa using h.k1 u hu
  refine ⟨K0, K1, fun u hu => ?_⟩
  have hs := h.sec u hu
  obtain ⟨w0, w1⟩ := want_of u hu
  have kw0 := K0 _ w0
  have kw1 := K1 _ w1
  have mono0 : cntS b0 0 xs (wantI u) = 1 → cntS b0 0 (xs ++ [(f, t)]) (wantI u) = 1 := fun hc => by
    have := kw0.1; rw [cntS_snoc] at this ⊢; split at this <;> (try split) <;> omega
  have mono1 : cntS b1 1 xs (wantR u) = 1 → cntS b1 1 (xs ++ [(f, t)]) (wantR u) = 1 := fun hc => by
    have := kw1.1; rw [cntS_snoc] at this ⊢; split at this <;> (try split) <;> omega
  rw [sec u hu, cntT_snoc]
  by_cases hq : t = u
  · subst hq
    have hsec : isSec t = true := by rcases hu with rfl | rfl | rfl | rfl <;> rfl
    rw [hsec] at h1 h2
    have hn : S (6 + t).toNat = false := by simpa using (Bool.or_eq_false_iff.1 h1).2
    have hz : cntT xs t ≠ 1 := fun hc => by rw [hs.2.1.2 hc] at hn; cases hn
    simp only [Bool.true_and, Bool.or_eq_false_iff, Bool.not_eq_false'] at h2
    have a0 := (h.k0 _ w0).2.1 h2.1
    have a1 := (h.k1 _ w1).2.1 h2.2
    refine ⟨by simp; omega, by simp; omega, fun _ => ⟨mono0 a0, mono1 a1⟩⟩
  · rw [if_neg hq]
    simp only [hq, decide_false, Bool.or_false, Nat.add_zero]
    exact ⟨hs.1, hs.2.1, fun hc => ⟨mono0 (hs.2.2 hc).1, mono1 (hs.2.2 hc).2⟩⟩
end Go.Proofs.YtkmejehhdjdlbaaGreatDoor.Q

namespace Go.Proofs.YtkmejehhdjdlbaaGreatDoor.Q

/-- A pattern: its name, what is known ahead, the messages. -/
structure Pn where
  nm : Bt
  b0 : List Int
  b1 : List Int
  ls : List Ln
deriving DecidableEq
def Pn.code (p : Pn) : Nat := checkL p.b0 p.b1 p.ls
def fallB : Bt := [102, 97, 108, 108, 98, 97, 99, 107]
def bef (p : Pn) (f : Int) : List Int := if f = 0 then p.b0 else p.b1
def setBef (p : Pn) (f : Int) (l : List Int) : Pn := if f = 0 then { p with b0 := l } else { p with b1 := l }
/-- The first message is known ahead: as the program says it; 'srt' sorts. -/
def backP (srt : List Int → List Int) (p : Pn) : Option Pn := match p.ls with
  | [] => none
  | l :: r => if okB l.2 && l.2.all (fun t => !(bef p l.1).contains t) then some { setBef p l.1 (srt (bef p l.1 ++ l.2)) with ls := r } else none
/-- A psk at a place. -/
def preT (p : Pn) (n : Nat) : Option Pn :=
  if p.ls = [] ∨ p.ls.length < n then none
  else some { p with ls := if n = 0 then p.ls.modify 0 (fun l => (l.1, 7 :: l.2)) else p.ls.modify (n - 1) (fun l => (l.1, l.2 ++ [7])) }
/-- One word; i: its number; 'least': the least number that may stand. -/
def wordP (srt : List Int → List Int) (i least : Nat) (p : Pn) (w : Bt) : Option (Nat × Pn) :=
  if w = fallB then (if 0 < i then none else (backP srt p).map (fun q => (least, q)))
  else match numP w with
    | some n => if n < least then none else (preT p n).map (fun q => (n + 1, q))
    | none => none
def plusW (i : Nat) (w : Bt) : Bt := (if 0 < i then [43] else []) ++ w
def goM (srt : List Int → List Int) : Nat → Nat → Pn → List Bt → Option Pn
  | _, _, p, [] => some p
  | i, least, p, w :: ws => match wordP srt i least p w with
    | none => none
    | some (m, q) => goM srt (i + 1) m { q with nm := q.nm ++ plusW i w } ws
/-- The pattern with its modifiers, and the error's number. -/
def modP (srt : List Int → List Int) (p : Pn) (ws : List Bt) : Option Pn × Nat :=
  if p.code ≠ 0 then (none, p.code) else match goM srt 0 0 p ws with
  | none => (none, 1)
  | some q => if q.code = 0 then (some q, 0) else (none, q.code)
theorem code_shape {p : Pn} (h : p.code = 0) : okB p.b0 = true ∧ okB p.b1 = true ∧ p.ls.length ≤ 24 := by
  unfold Pn.code checkL at h
  split at h
  · rename_i hs
    simp only [shapedL, Bool.and_eq_true] at hs
    refine ⟨hs.1.1.1, hs.1.1.2, ?_⟩
    have : ∀ (ls : List Ln) (prev : Option Int) (n : Nat), linesOk prev n ls = true → n ≤ 24 → n + ls.length ≤ 24 := by
      intro ls
      induction ls with
      | nil => intro _ n _ h; simpa using h
      | cons l r ih =>
        intro prev n hl _
        simp only [linesOk, Bool.and_eq_true, decide_eq_true_eq] at hl
        obtain ⟨⟨⟨h1, h2⟩, h3⟩, h4⟩ := hl
        have hp : l.2.length ≠ 0 := by
          simp only [headOk, Bool.and_eq_true, bne_iff_ne] at h1
          exact h1.2
        have := ih _ _ h4 h3
        simp only [List.length_cons]; omega
    have := this p.ls none 0 hs.2 (by omega)
    omega
  · cases h
end Go.Proofs.YtkmejehhdjdlbaaGreatDoor.Q

namespace Go.Proofs.YtkmejehhdjdlbaaGreatDoor
open Go.RowKit

/-- A row: its elements' type, how many cells each has, the slice's parts, what it holds. -/
structure Rw where
  e : TypeId
  sz : Nat
  t : Tv
  xs : List Value
def Rw.own (r : Rw) (w : World) (B : Nat) : Prop := Own w B r.e r.sz r.t.ao r.t.n r.t.c r.xs
def Rw.bl (r : Rw) : List Nat := blkL r.t.ao
def apartR (a b : Rw) : Prop := ∀ x, x ∈ a.bl → x ∈ b.bl → False
structure Sep (w : World) (B : Nat) (rs : List Rw) : Prop where
  own : ∀ r ∈ rs, r.own w B
  ap : rs.Pairwise apartR

theorem Rw.lt {r : Rw} {w : World} {B : Nat} (h : r.own w B) {x : Nat} (hx : x ∈ r.bl) : B ≤ x ∧ x < w.heap.size := Own.lt h x (mem_blkL.1 hx)
theorem Sep.nil (w : World) (B : Nat) : Sep w B [] := ⟨by simp, List.Pairwise.nil⟩
theorem Sep.kp {w w' : World} {B : Nat} {rs : List Rw} (h : Sep w B rs) (k : Kp w w') : Sep w' B rs := ⟨fun r hr => (h.own r hr).keep k, h.ap⟩
/-- What has changed lies below, or is new. -/
theorem Sep.fr {X : List Nat} {w w' : World} {B : Nat} {rs : List Rw} (h : Sep w B rs) (k : Fr X w w') (hX : ∀ x ∈ X, x < B ∨ w.heap.size ≤ x) : Sep w' B rs :=
  ⟨fun r hr => k.own (h.own r hr) (fun x hx hq => by have := Rw.lt (h.own r hr) hx; have := hX x hq; omega), h.ap⟩
theorem Sep.base {w : World} {B B' : Nat} {rs : List Rw} (h : Sep w B rs) (hB : B' ≤ B) : Sep w B' rs := ⟨fun r hr => Own.mono (h.own r hr) (fun k hk => Nat.le_trans hB (Own.lt (h.own r hr) k hk).1), h.ap⟩
theorem Sep.perm {w : World} {B : Nat} {rs rs' : List Rw} (h : Sep w B rs) (p : rs.Perm rs') : Sep w B rs' :=
  ⟨fun r hr => h.own r (p.mem_iff.2 hr), (p.pairwise_iff (fun {_a _b} hab x hx hy => hab x hy hx)).1 h.ap⟩
theorem Sep.cons {w : World} {B : Nat} {r : Rw} {rs : List Rw} (h : Sep w B rs) (hr : r.own w B) (ha : ∀ x ∈ r.bl, ∀ s ∈ rs, x ∉ s.bl) : Sep w B (r :: rs) :=
  ⟨fun s hs => by rcases List.mem_cons.1 hs with rfl | hs; exact hr; exact h.own s hs, List.pairwise_cons.2 ⟨fun s hs x hx hy => ha x hx s hs hy, h.ap⟩⟩
/-- A new row. -/
theorem Sep.new {w w' : World} {B : Nat} {r : Rw} {rs : List Rw} (h : Sep w B rs) (k : Kp w w') (hr : r.own w' w.heap.size) (hB : B ≤ w.heap.size) : Sep w' B (r :: rs) :=
  (h.kp k).cons (Own.mono hr (fun x hx => Nat.le_trans hB (Own.lt hr x hx).1)) (fun x hx s hs hy => by have := (Rw.lt hr hx).1; have := (Rw.lt (h.own s hs) hy).2; omega)
theorem Sep.tail {w : World} {B : Nat} {r : Rw} {rs : List Rw} (h : Sep w B (r :: rs)) : Sep w B rs := ⟨fun s hs => h.own s (List.mem_cons_of_mem _ hs), (List.pairwise_cons.1 h.ap).2⟩
theorem Sep.sub {w : World} {B : Nat} {rs rs' : List Rw} (h : Sep w B rs) (p : rs'.Sublist rs) : Sep w B rs' := ⟨fun r hr => h.own r (p.subset hr), h.ap.sublist p⟩
theorem Sep.head {w : World} {B : Nat} {r : Rw} {rs : List Rw} (h : Sep w B (r :: rs)) : r.own w B := h.own r (by simp)
/-- The first row has changed, and nothing else that lay there. -/
theorem Sep.upd {w w' : World} {B : Nat} {r r' : Rw} {rs : List Rw} (h : Sep w B (r :: rs)) (f : Fr r.bl w w') (hr : r'.own w' B) (hb : ∀ x ∈ r'.bl, x ∈ r.bl ∨ w.heap.size ≤ x) : Sep w' B (r' :: rs) := by
  have hp := List.pairwise_cons.1 h.ap
  have ht : Sep w' B rs := ⟨fun s hs => f.own (h.own s (List.mem_cons_of_mem _ hs)) (fun x hx hq => hp.1 s hs x hq hx), hp.2⟩
  refine ht.cons hr (fun x hx s hs hy => ?_)
  rcases hb x hx with q | q
  · exact hp.1 s hs x q hy
  · have := (Rw.lt (h.own s (List.mem_cons_of_mem _ hs)) hy).2
    omega
theorem Sep.app {w w' : World} {B : Nat} {e : TypeId} {sz : Nat} {t : Tv} {xs zs : List Value} {rs : List Rw} {m N : Nat} {ao' : Option Addr} {cap' : Nat} (h : Sep w B (⟨e, sz, t, xs⟩ :: rs)) (a : Appd w w' B e sz t.ao t.c m N zs ao' cap') : Sep w' B (⟨e, sz, ⟨ao', N, cap'⟩, zs⟩ :: rs) :=
  h.upd a.fr a.own (fun x hx => by
    rcases a.fresh x (mem_blkL.1 hx) with q | q
    · exact .inl (mem_blkL.2 q)
    · exact .inr (by omega))
theorem Sep.store {w : World} {B : Nat} {e : TypeId} {sz g n c : Nat} {xs : List Value} {rs : List Rw} (h : Sep w B (⟨e, sz, ⟨some ⟨g, 0, none⟩, n, c⟩, xs⟩ :: rs)) (j : Nat) (u : Value) : Sep (w.setCell ⟨g, j, none⟩ u) B (⟨e, sz, ⟨some ⟨g, 0, none⟩, n, c⟩, xs.set j u⟩ :: rs) :=
  h.upd ((Fr.set w ⟨g, j, none⟩ u).mono (fun x hx => by simp at hx; subst hx; exact mem_blkL_some.2 rfl)) (Own.store h.head j u) (fun x hx => .inl hx)

/-- The rows of a pattern's messages. -/
def rowT (t : Tv) (l : Ln) : Rw := ⟨3, 1, t, l.2.map iv⟩
def rowsT : List Tv → List Ln → List Rw
  | t :: ts, l :: ls => rowT t l :: rowsT ts ls
  | _, _ => []
def rowsP (t0 t1 tl : Tv) (ts : List Tv) (b0 b1 : List Int) (ls : List Ln) : List Rw := ⟨3, 1, t0, b0.map iv⟩ :: ⟨3, 1, t1, b1.map iv⟩ :: ⟨73, 2, tl, lnc ls ts⟩ :: rowsT ts ls
theorem rowsT_append : ∀ (ts us : List Tv) (ls ms : List Ln), ts.length = ls.length → rowsT (ts ++ us) (ls ++ ms) = rowsT ts ls ++ rowsT us ms
  | [], us, [], ms, _ => rfl
  | t :: ts, us, l :: ls, ms, h => by
    simp only [List.length_cons] at h
    simp only [List.cons_append, rowsT]
    rw [rowsT_append ts us ls ms (by omega)]
theorem rowsT_length : ∀ {ts : List Tv} {ls : List Ln}, ts.length = ls.length → (rowsT ts ls).length = ls.length
  | [], [], _ => rfl
  | t :: ts, l :: ls, h => by
    simp only [List.length_cons] at h
    simp only [rowsT, List.length_cons]
    rw [rowsT_length (by omega)]
theorem rowsT_get : ∀ {ts : List Tv} {ls : List Ln} (h : ts.length = ls.length) (j : Nat) (hj : j < ls.length), (rowsT ts ls)[j]? = some (rowT (ts[j]'(by omega)) ls[j])
  | [], [], _, _, hj => absurd hj (by simp)
  | t :: ts, l :: ls, h, 0, _ => rfl
  | t :: ts, l :: ls, h, j + 1, hj => by
    simp only [List.length_cons] at h hj
    have := rowsT_get (ts := ts) (ls := ls) (by omega) j (by omega)
    simpa [rowsT] using this
theorem rowsT_mem {ts : List Tv} {ls : List Ln} (h : ts.length = ls.length) {r : Rw} (hr : r ∈ rowsT ts ls) : ∃ (j : Nat) (t : Tv) (l : Ln), ts[j]? = some t ∧ ls[j]? = some l ∧ r = rowT t l := by
  obtain ⟨j, hj, rfl⟩ := List.getElem_of_mem hr
  rw [rowsT_length h] at hj
  refine ⟨j, _, _, List.getElem?_eq_getElem (by omega), List.getElem?_eq_getElem hj, ?_⟩
  have := rowsT_get h j hj
  rw [List.getElem?_eq_getElem (by rw [rowsT_length h]; exact hj)] at this
  simpa using this
/-- The rows of a pattern, each in its own place among the list's others. -/
theorem rowsT_split {ts : List Tv} {ls : List Ln} (h : ts.length = ls.length) (j : Nat) (hj : j < ls.length) : rowsT ts ls = rowsT (ts.take j) (ls.take j) ++ rowT (ts[j]'(by omega)) ls[j] :: rowsT (ts.drop (j + 1)) (ls.drop (j + 1)) := by
  have e1 : ts = ts.take j ++ ts[j]'(by omega) :: ts.drop (j + 1) := by rw [← List.drop_eq_getElem_cons (by omega), List.take_append_drop]
  have e2 : ls = ls.take j ++ ls[j] :: ls.drop (j + 1) := by rw [← List.drop_eq_getElem_cons hj, List.take_append_drop]
  rw [congr (congrArg rowsT e1) e2, rowsT_append _ _ _ _ (by rw [List.length_take, List.length_take]; omega)]
  rfl
/-- A pattern of the call's own, as rows. -/
theorem PatO.sep {w : World} {B : Nat} {t0 t1 tl : Tv} {ts : List Tv} {b0 b1 : List Int} {ls : List Ln} (h : PatO w B t0 t1 tl ts b0 b1 ls) : Sep w B (rowsP t0 t1 tl ts b0 b1 ls) := by
  have hget : ∀ i r, (rowsP t0 t1 tl ts b0 b1 ls)[i]? = some r → r.t = (t0 :: t1 :: tl :: ts).getD i nilT ∧ r.own w B := fun i r hr => by
    rcases i with _ | _ | _ | i
    · simp [rowsP] at hr; subst hr; exact ⟨rfl, h.o0⟩
    · simp [rowsP] at hr; subst hr; exact ⟨rfl, h.o1⟩
    · simp [rowsP] at hr; subst hr; exact ⟨rfl, h.ol⟩
    · simp only [rowsP, List.getElem?_cons_succ] at hr
      have hi : i < ls.length := by
        have := (List.getElem?_eq_some_iff.1 hr).1
        rwa [rowsT_length h.len] at this
      rw [rowsT_get h.len i hi] at hr
      simp only [Option.some.injEq] at hr
      subst hr
      have hti : i < ts.length := by rw [h.len]; exact hi
      refine ⟨?_, h.ot i _ _ (List.getElem?_eq_getElem hti) (List.getElem?_eq_getElem hi)⟩
      simp only [List.getD_cons_succ]
      rw [getD_lt _ _ hti]; rfl
  refine ⟨fun r hr => ?_, ?_⟩
  · obtain ⟨i, hi, rfl⟩ := List.getElem_of_mem hr
    exact (hget i _ (List.getElem?_eq_getElem hi)).2
  · rw [List.pairwise_iff_getElem]
    intro i j hi hj hij x hx hy
    have e1 := (hget i _ (List.getElem?_eq_getElem hi)).1
    have e2 := (hget j _ (List.getElem?_eq_getElem hj)).1
    unfold Rw.bl at hx hy
    rw [e1] at hx
    rw [e2] at hy
    have := h.dj i j x hx hy
    omega
/-- What is read of a pattern that lies in rows. -/
theorem sep_lns {w : World} {B : Nat} {tl : Tv} {ts : List Tv} {ls : List Ln} (hl : ts.length = ls.length) (ol : Own w B 73 2 tl.ao tl.n tl.c (lnc ls ts)) (ot : ∀ r ∈ rowsT ts ls, r.own w B) (hn : ls.length ≤ 140737488351232) (ht : ∀ l ∈ ls, l.2.length ≤ 140737488351232) : Lns w tl.ao tl.n ls := by
  have h2 := ol.1
  rw [lnc_length hl] at h2
  have hnl : tl.n = ls.length := by omega
  rw [hnl]
  refine ⟨rfl, hn, fun j hj => ?_⟩
  obtain ⟨g0, g1⟩ := lnc_get hl j hj
  obtain ⟨b, off, e0, c0⟩ := ol.cs (j * 2) _ g0
  obtain ⟨b', off', e1, c1⟩ := ol.cs (j * 2 + 1) _ g1
  rw [e0] at e1
  simp only [Option.some.injEq, Addr.mk.injEq, and_true] at e1
  obtain ⟨rfl, rfl⟩ := e1
  have hr := ot _ (List.mem_of_getElem? (rowsT_get hl j hj))
  have hi : Is w (ts[j]'(by omega)).ao (ts[j]'(by omega)).n ls[j].2 := Own.is hr
  have hlt := ht _ (List.getElem_mem hj)
  exact ⟨b, off, _, _, _, e0, c0, by rw [Nat.add_assoc]; exact c1, hi, by rw [← hi.1]; exact hlt⟩
theorem Sep.pat {w : World} {B : Nat} {t0 t1 tl : Tv} {ts : List Tv} {b0 b1 : List Int} {ls : List Ln} (hl : ts.length = ls.length) (h : Sep w B (rowsP t0 t1 tl ts b0 b1 ls)) (hn : ls.length ≤ 140737488351232) (ht : ∀ l ∈ ls, l.2.length ≤ 140737488351232) : PatI w t0.ao t1.ao tl.ao t0.n t1.n tl.n b0 b1 ls :=
  ⟨Own.is (h.own ⟨3, 1, t0, b0.map iv⟩ (by simp [rowsP])), Own.is (h.own ⟨3, 1, t1, b1.map iv⟩ (by simp [rowsP])), sep_lns hl (h.own ⟨73, 2, tl, lnc ls ts⟩ (by simp [rowsP])) (fun r hr => h.own r (by simp [rowsP, hr])) hn ht⟩
end Go.Proofs.YtkmejehhdjdlbaaGreatDoor

namespace Go.Proofs.YtkmejehhdjdlbaaGreatDoor
open Go.RowKit

def badC : List PanicEntry := [{ v := .iface 147 (.agg #[]), recovered := false }]
def LineV (w w' : World) (l : Ln) (e : Ending) : Prop := ∃ t : Tv, e = .returned (.agg #[iv l.1, tvv t]) ∧ Own w' w.heap.size 3 1 t.ao t.n t.c (l.2.map iv)
/-- What reading a row of a side leaves. -/
def LinePost (w : World) (s : Q.Bt) (e : Ending) (w' : World) : Prop := Kp w w' ∧ match Q.lineP s with
  | some l => LineV w w' l e
  | none => e = badE
theorem wordsT_take {ws : List Q.Bt} : ∀ {k : Nat} {x : Q.Bt} {ts : List Int} {t : Int}, ws[k]? = some x → Q.wordsT (ws.take k) = some ts → Q.wordT x = some t → Q.wordsT (ws.take (k + 1)) = some (ts ++ [t]) := by
  induction ws with
  | nil => intro k x ts t h; simp at h
  | cons a r ih =>
    intro k x ts t h h1 h2
    rcases k with _ | k
    · simp at h
      subst h
      simp only [List.take_zero, Q.wordsT, Option.some.injEq] at h1
      subst h1
      simp [Q.wordsT, h2]
    · simp only [List.getElem?_cons_succ] at h
      simp only [List.take_succ_cons, Q.wordsT] at h1 ⊢
      cases ha : Q.wordT a with
      | none => rw [ha] at h1; cases h1
      | some u =>
        rw [ha] at h1
        cases hr : Q.wordsT (r.take k) with
        | none => rw [hr] at h1; cases h1
        | some l =>
          rw [hr] at h1
          simp only [Option.some.injEq] at h1
          subst h1
          rw [ih h hr h2]
          rfl
theorem wordsT_bad {ws : List Q.Bt} : ∀ {k : Nat} {x : Q.Bt}, ws[k]? = some x → Q.wordT x = none → Q.wordsT ws = none := by
  induction ws with
  | nil => intro k x h; simp at h
  | cons a r ih =>
    intro k x h h2
    rcases k with _ | k
    · simp at h
      subst h
      simp [Q.wordsT, h2]
    · simp only [List.getElem?_cons_succ] at h
      simp only [Q.wordsT, ih h h2]
      cases Q.wordT a <;> rfl
/-- The pieces of a row. -/
def pcs (s : ByteArray) : List ByteArray := Lib.splitB ⟨#[44, 32]⟩ 0 (Lib.countB s ⟨#[44, 32]⟩) s
theorem pcs_data (s : ByteArray) : (pcs s).map (·.data.toList) = Lib.split s.data.toList Q.comma := by
  unfold pcs
  rw [Lib.splitB_data]
  rfl
theorem pcs_length (s : ByteArray) : (pcs s).length = Lib.countB s ⟨#[44, 32]⟩ + 1 := Lib.splitB_all _ (by decide) 0 _ s rfl
/-- A block's two cells, which may be written. -/
structure Two2 (w : World) (b : Nat) (x y : Value) : Prop where
  c0 : w.cell? ⟨b, 0, none⟩ = some x
  c1 : w.cell? ⟨b, 1, none⟩ = some y
  f0 : w.frozen? ⟨b, 0, none⟩ = false
  f1 : w.frozen? ⟨b, 1, none⟩ = false
theorem Two2.new (w : World) (x y : Value) (t : TypeId) : Two2 (w.alloc (.cells #[x, y] t)) w.heap.size x y := by
  refine ⟨?_, ?_, ?_, ?_⟩
  · rw [World.cell?_alloc_at _ _ _ _ rfl]; rfl
  · rw [World.cell?_alloc_at _ _ _ _ rfl]; rfl
  · exact World.frozen?_alloc_at _ _ _ _ rfl
  · exact World.frozen?_alloc_at _ _ _ _ rfl
theorem Two2.fr {X : List Nat} {w w' : World} {b : Nat} {x y : Value} (h : Two2 w b x y) (k : Fr X w w') (hb : b ∉ X) : Two2 w' b x y := ⟨k.cell h.c0 hb, k.cell h.c1 hb, k.free h.c0 h.f0 hb, k.free h.c1 h.f1 hb⟩
theorem Two2.kp {w w' : World} {b : Nat} {x y : Value} (h : Two2 w b x y) (k : Kp w w') : Two2 w' b x y := h.fr (Fr.of_kp k) (by simp)
theorem Two2.set1 {w : World} {b : Nat} {x y : Value} (h : Two2 w b x y) (z : Value) : Two2 (w.setCell ⟨b, 1, none⟩ z) b x z :=
  ⟨by rw [World.cell?_setCell_other _ _ _ _ (by simp)]; exact h.c0, World.cell?_setCell_same _ _ _ h.c1, by rw [World.frozen?_setCell]; exact h.f0, by rw [World.frozen?_setCell]; exact h.f1⟩
theorem Fr.set2 (w : World) (b : Nat) (x y : Value) : Fr [b] w ((w.setCell ⟨b, 0, none⟩ x).setCell ⟨b, 1, none⟩ y) := (Fr.set w ⟨b, 0, none⟩ x).trans (Fr.set _ ⟨b, 1, none⟩ y)
theorem Two2.set2 {w : World} {b : Nat} {x y : Value} (h : Two2 w b x y) (u v : Value) : ∃ w', w' = (w.setCell ⟨b, 0, none⟩ u).setCell ⟨b, 1, none⟩ v ∧ w'.cell? ⟨b, 0, none⟩ = some u ∧ w'.cell? ⟨b, 1, none⟩ = some v := by
  refine ⟨_, rfl, ?_, ?_⟩
  · rw [World.cell?_setCell_other _ _ _ _ (by simp)]; exact World.cell?_setCell_same _ _ _ h.c0
  · exact World.cell?_setCell_same _ _ _ (by rw [World.cell?_setCell_other _ _ _ _ (by simp)]; exact h.c1)

set_option maxRecDepth 100000 in
set_option maxHeartbeats 8000000 in
theorem line_any (s : ByteArray) (m : Int) (w : World) (hs : s.size < 4294967281) (hm : MaxV w m) : Calls Tryz.prog 108 #[.string s] w (LinePost w s.data.toList) := by
  have HA := Lib.hid (fun w' => Tryz.strings_CutPrefix s ⟨#[32, 32, 45, 62, 32]⟩ w')
  have HB := Lib.hid (fun w' => Tryz.strings_CutPrefix s ⟨#[32, 32, 60, 45, 32]⟩ w')
  have hsl := Lib.size_eq s
  have Hl := Lib.hid (And.intro (show (⟨#[32, 32, 45, 62, 32]⟩ : ByteArray).data.toList = Q.outR from rfl) (show (⟨#[32, 32, 60, 45, 32]⟩ : ByteArray).data.toList = Q.inR from rfl))
  rw [Hl.out.1] at HA
  rw [Hl.out.2] at HB
  clear Hl
  by_cases hA : Lib.hasPrefix s.data.toList Q.outR = true
  · obtain ⟨r, hr, hrl⟩ : ∃ r, Lib.trimPrefix s.data.toList Q.outR = r ∧ r.length ≤ s.size := ⟨_, rfl, by have := Lib.trimPrefix_le s.data.toList Q.outR; omega⟩
    rw [hA, hr] at HA
    have Hr := Lib.hid (show Q.lineP s.data.toList = (Q.wordsT (Lib.split r Q.comma)).map (fun l => (0, l)) by unfold Q.lineP; rw [if_pos hA, ← hr]; unfold Lib.trimPrefix; rw [if_pos hA]; rfl)
    clear hA hr hsl
    change Hid (∀ w', Calls _ _ _ _ (fun e w'' => e = .returned (.tuple #[.string (bs r), .bool true]) ∧ w'' = w')) at HA
    go_enter Tryz.func108, Tryz.ntmps108
    go_wp2_with fail
    (with_reducible refine (HA.out _).mono ?_)
    rintro e w1 ⟨rfl, rfl⟩
    go_upto_region 7 with fail
    obtain ⟨w2, hw2⟩ : ∃ w2, w2 = (w.alloc (.cells #[iv 0, .slice none 0 0] 73)).alloc (.cells #[iv 0, .slice none 0 0] 73) := ⟨_, rfl⟩
    obtain ⟨b3, hb3⟩ : ∃ b3, b3 = w.heap.size + 1 := ⟨_, rfl⟩
    have hk2 : Kp w w2 := by rw [hw2]; exact Kp.trans (Kp.new _ _) (Kp.new _ _)
    have hret : Two2 w2 w.heap.size (iv 0) (.slice none 0 0) := by
      rw [hw2]
      exact (Two2.new w (iv 0) (.slice none 0 0) 73).kp (Kp.new _ _)
    have hout : Two2 w2 b3 (iv 0) (.slice none 0 0) := by
      rw [hw2, hb3]
      have := Two2.new (w.alloc (.cells #[iv 0, .slice none 0 0] 73)) (iv 0) (.slice none 0 0) 73
      rwa [World.size_alloc] at this
    have hs2 : b3 < w2.heap.size := by rw [hw2, hb3]; simp
    rw [← hw2, ← hb3]
    clear hw2
    have hb23 : w.heap.size < b3 := by omega
    obtain ⟨b2, hb2⟩ : ∃ b2, b2 = w.heap.size := ⟨_, rfl⟩
    rw [← hb2] at hret ⊢
    have hb2w : w.heap.size ≤ b2 := by omega
    have hb2w' : b2 < b3 := by omega
    clear hb2 hb3
    have hrs : (bs r).size < 4294967281 := by rw [bs_size]; omega
    have HSp := Lib.hid (Tryz.strings_Split (bs r) ⟨#[44, 32]⟩ m w2 hrs (hk2.maxV hm) (by decide))
    have hpl := pcs_length (bs r)
    have hcl : Lib.countB (bs r) ⟨#[44, 32]⟩ ≤ (bs r).size := Lib.countB_le _ (by decide) _ _ (Nat.le_refl _)
    have Hpd := Lib.hid (pcs_data (bs r))
    rw [← hpl] at HSp
    change Hid (Calls _ _ _ _ (fun e w' => e = .returned (.slice (some ⟨w2.heap.size, 0, none⟩) (pcs (bs r)).length (pcs (bs r)).length) ∧ w' = w2.alloc (.cells ((pcs (bs r)).map Value.string).toArray 9))) at HSp
    have hnl : (pcs (bs r)).length ≤ 4294967281 := by omega
    generalize pcs (bs r) = ps at *
    obtain ⟨n, hn⟩ : ∃ n, n = ps.length := ⟨_, rfl⟩
    rw [← hn] at HSp hnl
    clear hpl hcl hrs
    have hkp := Kp.new w2 (.cells (ps.map Value.string).toArray 9)
    have hps : ∀ j (h : j < ps.length), (w2.alloc (.cells (ps.map Value.string).toArray 9)).cell? ⟨w2.heap.size, j, none⟩ = some (.string ps[j]) := fun j h => by
      rw [World.cell?_alloc_at _ _ _ _ rfl]
      simp [h]
    have hre3 := hret.kp hkp
    have hou3 := hout.kp hkp
    have hk3 := Kp.trans hk2 hkp
    have hs3 : b3 < (w2.alloc (.cells (ps.map Value.string).toArray 9)).heap.size := Nat.lt_of_lt_of_le hs2 hkp.size
    have hbp : w2.heap.size < (w2.alloc (.cells (ps.map Value.string).toArray 9)).heap.size := by simp
    clear hret hout hkp hk2
    go_wp2_with fail
    (with_reducible refine HSp.out.mono ?_)
    rintro e w3 ⟨rfl, hw3⟩
    rw [← hw3] at hps hre3 hou3 hk3 hs3 hbp
    clear hw3
    obtain ⟨bp, hbq⟩ : ∃ bp, bp = w2.heap.size := ⟨_, rfl⟩
    rw [← hbq] at hps hs2 hbp ⊢
    clear hbq
    have Hn := Lib.hid hn
    have Hps := Lib.hid hps
    have Hre := Lib.hid hre3
    have Hk3 := Lib.hid hk3
    clear hn hps hre3 hk3
    go_wp2_with fail
    go_loopw [27] (fun i wr => ∃ (k : Nat) (ts : List Int) (ao : Option Addr) (cap : Nat), k ≤ n ∧ i = .int .i64 (k : Nat) ∧ Fr [b3] w3 wr ∧ Two2 wr b3 (iv 0) (.slice ao k cap) ∧ Own wr w3.heap.size 3 1 ao k cap (ts.map iv) ∧ Q.wordsT ((ps.map (·.data.toList)).take k) = some ts) (fun i _ => n - (intOf i).toNat)
    case atStart => exact ⟨0, [], none, 0, by omega, rfl, Fr.refl _ _, hou3, Own.nil _ _ _ _, rfl⟩
    case round =>
      clear hou3
      obtain ⟨k, ts, ao, cap, hk, rfl, hF, hO, hW, hT⟩ := hrel
      by_cases hlt : k < n
      · have hkp : k < ps.length := by rw [← Hn.out]; exact hlt
        obtain ⟨x, hx⟩ : ∃ x, ps[k]? = some x := ⟨_, List.getElem?_eq_getElem hkp⟩
        have hc : wr.cell? ⟨bp, k, none⟩ = some (.string x) := by
          refine hF.cell ?_ (by simp; omega)
          rw [Hps.out k hkp]
          rw [List.getElem?_eq_getElem hkp] at hx
          rw [Option.some.inj hx]
        have hxd : (ps.map (·.data.toList))[k]? = some x.data.toList := by rw [List.getElem?_map, hx]; rfl
        have Hxd := Lib.hid hxd
        have HT := Lib.hid hT
        clear hxd hT hx
        go_upto_region 10 with fail
        clear hc
        have Hbad := Lib.hid (fun w' (hk' : Kp w w') (hn : Q.lineP s.data.toList = none) => show LinePost w s.data.toList badE w' from ⟨hk', by rw [hn]⟩)
        refine anyP_start (fun w => w.cell? ⟨b3, 1, none⟩ = some (.slice ao k cap)) 7 (fun a => a.defers = []) (fun c w' => c = badC ∧ Kp w w' ∧ Q.lineP s.data.toList = none) (by kernel_rfl) ?hp ?_
        case hp =>
          rintro c a w' hd ⟨rfl, hk', hn'⟩
          exact ⟨hd, Hbad.out _ hk' hn'⟩
        have hI : ∀ ops : Array Oper, Puts ops (fun a => a.defers = []) := fun _ _ o _ a v h => by
          unfold Act.put at h
          cases hd : o.dst <;> rw [hd] at h <;> exact h
        generalize hwq : wr.drew = wd
        have hkd : Kp wr wd := hwq ▸ (⟨rfl, rfl, rfl, Nat.le_refl _, fun _ _ => rfl⟩ : Kp wr wr.drew)
        clear hwq
        have hS := hkd.cell hO.c1
        refine anyP_take (hI _) [0, 2] (by kernel_rfl) hS ?_
        simp only [opsAt, List.getElem?_toArray, List.getElem?_cons_zero, List.getElem?_cons_succ]
        repeat (go_big_quiet_step (fail))
        refine wpQuiet_nil ?_
        refine anyP_load (hI _) 1 32 (.slice ao k cap) rfl rfl (by kernel_rfl) hS (fun w h => exec_load22 h rfl rfl) ?_
        simp only [Act.put, List.setIfInBounds_toArray, List.set_cons_zero, List.set_cons_succ]
        refine anyP_one 3 (by kernel_rfl) ?_
        simp only [opsAt, List.getElem?_toArray, List.getElem?_cons_zero, List.getElem?_cons_succ]
        have hkw : Kp w wr := ((Fr.of_kp Hk3.out).step hF (fun j hj => .inr (by simp at hj; omega))).kp
        have Hkw := Lib.hid (Kp.trans hkw hkd)
        clear hkw
        cases hw : Q.wordT x.data.toList with
        | none =>
          have hTk := token_any x wd
          unfold TokPost at hTk
          rw [hw] at hTk
          have HTk := Lib.hid hTk
          have Hno := Lib.hid (show Q.lineP s.data.toList = none by rw [Hr.out, ← bs_list r, ← Hpd.out, wordsT_bad Hxd.out hw]; rfl)
          clear hTk hw hS
          go_wp2_with fail
          (with_reducible refine HTk.out.mono ?_)
          rintro e w4 ⟨rfl, hk4⟩
          exact ⟨rfl, Kp.trans Hkw.out hk4, Hno.out⟩
        | some t =>
          have hTk := token_any x wd
          unfold TokPost at hTk
          rw [hw] at hTk
          have HTk := Lib.hid hTk
          have Hts := Lib.hid (wordsT_take Hxd.out HT.out hw)
          clear hTk hw
          go_wp2_with fail
          (with_reducible refine HTk.out.mono ?_)
          rintro e w4 ⟨rfl, hk4⟩
          have hS4 := hk4.cell hS
          go_wp2_with fail
          refine ⟨fun _ => hS4, ?_⟩
          refine anyP_one 4 (by kernel_rfl) ?_
          simp only [opsAt, List.getElem?_toArray, List.getElem?_cons_zero, List.getElem?_cons_succ]
          have hkn := Kp.new w4 (.cells #[iv t] 3)
          have hcs : Cs (w4.alloc (.cells #[iv t] 3)) (some ⟨w4.heap.size, 0, none⟩) [iv t] := Cs.new w4 [iv t] 3 (0, 0)
          have hS5 := hkn.cell hS4
          have hk45 : Kp wr (w4.alloc (.cells #[iv t] 3)) := Kp.trans (Kp.trans hkd hk4) hkn
          clear hS hS4
          go_wp2_with fail
          refine ⟨fun _ => hS5, ?_⟩
          generalize w4.alloc (.cells #[iv t] 3) = w5 at *
          obtain ⟨b4, hb4⟩ : ∃ b4, b4 = w4.heap.size := ⟨_, rfl⟩
          rw [← hb4] at hcs ⊢
          clear hb4 hkn
          refine anyP_one 5 (by kernel_rfl) ?_
          simp only [opsAt, List.getElem?_toArray, List.getElem?_cons_zero, List.getElem?_cons_succ]
          have hbs : w3.heap.size ≤ w5.heap.size := Nat.le_trans hF.size hk45.size
          go_wp2_with (at_builtin; go_loud (refine wpList_app rfl (.tmp 32) (.tmp 35) 22 rfl el22 w3.heap.size rfl (hW.keep hk45) rfl [iv t] rfl hcs (by simp [Value.oneCell']) (k + 1) rfl ((ts ++ [t]).map iv) (by simp) (by omega) hbs ?_); intro ao2 cap2 w6 ha)
          have hn3 : b3 ∉ blkL ao := fun h => by have := (hW.lt b3 (mem_blkL.1 h)).1; omega
          have hS6 := ha.fr.cell hS5 hn3
          refine ⟨fun _ => hS6, ?_⟩
          refine anyP_take (hI _) [6] (by kernel_rfl) hS6 ?_
          simp only [opsAt, List.getElem?_toArray, List.getElem?_cons_zero, List.getElem?_cons_succ]
          repeat (go_big_quiet_step (fail))
          refine wpQuiet_nil ?_
          refine anyP_one 7 (by kernel_rfl) ?_
          simp only [opsAt, List.getElem?_toArray, List.getElem?_cons_zero, List.getElem?_cons_succ]
          have hO6 := (hO.kp hk45).fr ha.fr hn3
          have hset := Fr.set w6 ⟨b3, 1, none⟩ (.slice ao2 (k + 1) cap2)
          have hn4 : ∀ j ∈ blkL ao2, j ∉ [b3] := fun j hj hq => by
            simp only [List.mem_singleton] at hq
            subst hq
            rcases ha.fresh _ (mem_blkL.1 hj) with h | h
            · exact hn3 (mem_blkL.2 h)
            · have := hF.size; have := hk45.size; omega
          have hF36 : Fr [b3] w3 w6 := (hF.trans ((Fr.of_kp hk45).mono (by simp))).step ha.fr (fun j hj => .inr (hW.lt j (mem_blkL.1 hj)).1)
          have Hfin := Lib.hid (And.intro (hF36.trans hset) (And.intro (hO6.set1 (.slice ao2 (k + 1) cap2)) (And.intro (hset.own ha.own hn4) Hts.out)))
          have hf6 := hO6.f1
          clear hset hO6 hn4 hO hS5 ha hcs hW hF hn3 hF36
          go_wp2_with fail
          refine ⟨fun h => absurd rfl h, ?_⟩
          refine anyP_end (by kernel_rfl) ?_
          clear hS6 hf6
          go_wp2_with fail
          go_roundw
          case rel => exact ⟨k + 1, ts ++ [t], ao2, cap2, by omega, by go_num, Hfin.out⟩
          case measure => simp [intOf]; omega
      · obtain rfl : k = n := by omega
        have Hyes := Lib.hid (show Q.lineP s.data.toList = some (0, ts) by
          rw [List.take_of_length_le (by rw [List.length_map, ← Hn.out]; exact Nat.le_refl _), Hpd.out, bs_list] at hT
          rw [Hr.out, hT]; rfl)
        have hR := Hre.out.fr hF (by simp; omega)
        have hkw : Kp w wr := ((Fr.of_kp Hk3.out).step hF (fun j hj => .inr (by simp at hj; omega))).kp
        have hset := Fr.set2 wr b2 (iv 0) (.slice ao k cap)
        have hnb : ∀ j ∈ blkL ao, j ∉ [b2] := fun j hj hq => by
          have := (hW.lt j (mem_blkL.1 hj)).1
          simp at hq; omega
        have Hfin := Lib.hid (And.intro ((Fr.of_kp hkw).step hset (fun j hj => .inr (by simp at hj; omega))).kp ((hset.own hW hnb).mono (fun j hj => by have := (hW.lt j hj).1; have := Hk3.out.size; omega) : Own _ w.heap.size 3 1 ao k cap (ts.map iv)))
        obtain ⟨wf, hwf, c0, c1⟩ := hR.set2 (iv 0) (.slice ao k cap)
        rw [← hwf] at Hfin
        have Hwf := Lib.hid hwf
        obtain ⟨x0, x1, x2, x3⟩ := hR
        obtain ⟨y0, y1, _, _⟩ := hO
        clear hset hnb hwf hF hW hT hkw
        go_wp2_with fail
        rw [← Hwf.out]
        show bodyPost Tryz.prog Tryz.f108 (LinePost w s.data.toList) .ret _ _
        refine bodyPost_ret (v := .agg #[iv 0, .slice ao k cap]) (by simp [results, Tryz.results108, go_sem, c0, c1]) rfl ?_
        refine ⟨Hfin.out.1, ?_⟩
        rw [Hyes.out]
        exact ⟨⟨ao, k, cap⟩, rfl, Hfin.out.2⟩
  · by_cases hB : Lib.hasPrefix s.data.toList Q.inR = true
    · obtain ⟨r, hr, hrl⟩ : ∃ r, Lib.trimPrefix s.data.toList Q.inR = r ∧ r.length ≤ s.size := ⟨_, rfl, by have := Lib.trimPrefix_le s.data.toList Q.inR; omega⟩
      have hA' : Lib.hasPrefix s.data.toList Q.outR = false := by simpa using hA
      rw [hA'] at HA
      rw [hB, hr] at HB
      have Hr := Lib.hid (show Q.lineP s.data.toList = (Q.wordsT (Lib.split r Q.comma)).map (fun l => (1, l)) by unfold Q.lineP; rw [if_neg hA, if_pos hB, ← hr]; unfold Lib.trimPrefix; rw [if_pos hB]; rfl)
      clear hA hA' hB hr hsl
      change Hid (∀ w', Calls _ _ _ _ (fun e w'' => e = .returned (.tuple #[.string (bs r), .bool true]) ∧ w'' = w')) at HB
      go_enter Tryz.func108, Tryz.ntmps108
      go_wp2_with fail
      (with_reducible refine (HA.out _).mono ?_)
      rintro e w1 ⟨rfl, rfl⟩
      go_wp2_with fail
      (with_reducible refine (HB.out _).mono ?_)
      rintro e w1 ⟨rfl, rfl⟩
      go_wp2_with fail
      (with_reducible refine (ask_true _).mono ?_)
      rintro e w1 ⟨rfl, rfl⟩
      go_upto_region 7 with fail
      obtain ⟨w2, hw2⟩ : ∃ w2, w2 = (w.alloc (.cells #[iv 0, .slice none 0 0] 73)).alloc (.cells #[iv 1, .slice none 0 0] 73) := ⟨_, rfl⟩
      obtain ⟨b3, hb3⟩ : ∃ b3, b3 = w.heap.size + 1 := ⟨_, rfl⟩
      have hk2 : Kp w w2 := by rw [hw2]; exact Kp.trans (Kp.new _ _) (Kp.new _ _)
      have hret : Two2 w2 w.heap.size (iv 0) (.slice none 0 0) := by
        rw [hw2]
        exact (Two2.new w (iv 0) (.slice none 0 0) 73).kp (Kp.new _ _)
      have hout : Two2 w2 b3 (iv 1) (.slice none 0 0) := by
        rw [hw2, hb3]
        have := Two2.new (w.alloc (.cells #[iv 0, .slice none 0 0] 73)) (iv 1) (.slice none 0 0) 73
        rwa [World.size_alloc] at this
      have hs2 : b3 < w2.heap.size := by rw [hw2, hb3]; simp
      rw [← hw2, ← hb3]
      clear hw2
      have hb23 : w.heap.size < b3 := by omega
      obtain ⟨b2, hb2⟩ : ∃ b2, b2 = w.heap.size := ⟨_, rfl⟩
      rw [← hb2] at hret ⊢
      have hb2w : w.heap.size ≤ b2 := by omega
      have hb2w' : b2 < b3 := by omega
      clear hb2 hb3
      have hrs : (bs r).size < 4294967281 := by rw [bs_size]; omega
      have HSp := Lib.hid (Tryz.strings_Split (bs r) ⟨#[44, 32]⟩ m w2 hrs (hk2.maxV hm) (by decide))
      have hpl := pcs_length (bs r)
      have hcl : Lib.countB (bs r) ⟨#[44, 32]⟩ ≤ (bs r).size := Lib.countB_le _ (by decide) _ _ (Nat.le_refl _)
      have Hpd := Lib.hid (pcs_data (bs r))
      rw [← hpl] at HSp
      change Hid (Calls _ _ _ _ (fun e w' => e = .returned (.slice (some ⟨w2.heap.size, 0, none⟩) (pcs (bs r)).length (pcs (bs r)).length) ∧ w' = w2.alloc (.cells ((pcs (bs r)).map Value.string).toArray 9))) at HSp
      have hnl : (pcs (bs r)).length ≤ 4294967281 := by omega
      generalize pcs (bs r) = ps at *
      obtain ⟨n, hn⟩ : ∃ n, n = ps.length := ⟨_, rfl⟩
      rw [← hn] at HSp hnl
      clear hpl hcl hrs
      have hkp := Kp.new w2 (.cells (ps.map Value.string).toArray 9)
      have hps : ∀ j (h : j < ps.length), (w2.alloc (.cells (ps.map Value.string).toArray 9)).cell? ⟨w2.heap.size, j, none⟩ = some (.string ps[j]) := fun j h => by
        rw [World.cell?_alloc_at _ _ _ _ rfl]
        simp [h]
      have hre3 := hret.kp hkp
      have hou3 := hout.kp hkp
      have hk3 := Kp.trans hk2 hkp
      have hs3 : b3 < (w2.alloc (.cells (ps.map Value.string).toArray 9)).heap.size := Nat.lt_of_lt_of_le hs2 hkp.size
      have hbp : w2.heap.size < (w2.alloc (.cells (ps.map Value.string).toArray 9)).heap.size := by simp
      clear hret hout hkp hk2
      go_wp2_with fail
      (with_reducible refine HSp.out.mono ?_)
      rintro e w3 ⟨rfl, hw3⟩
      rw [← hw3] at hps hre3 hou3 hk3 hs3 hbp
      clear hw3
      obtain ⟨bp, hbq⟩ : ∃ bp, bp = w2.heap.size := ⟨_, rfl⟩
      rw [← hbq] at hps hs2 hbp ⊢
      clear hbq
      have Hn := Lib.hid hn
      have Hps := Lib.hid hps
      have Hre := Lib.hid hre3
      have Hk3 := Lib.hid hk3
      clear hn hps hre3 hk3
      go_wp2_with fail
      go_loopw [27] (fun i wr => ∃ (k : Nat) (ts : List Int) (ao : Option Addr) (cap : Nat), k ≤ n ∧ i = .int .i64 (k : Nat) ∧ Fr [b3] w3 wr ∧ Two2 wr b3 (iv 1) (.slice ao k cap) ∧ Own wr w3.heap.size 3 1 ao k cap (ts.map iv) ∧ Q.wordsT ((ps.map (·.data.toList)).take k) = some ts) (fun i _ => n - (intOf i).toNat)
      case atStart => exact ⟨0, [], none, 0, by omega, rfl, Fr.refl _ _, hou3, Own.nil _ _ _ _, rfl⟩
      case round =>
        clear hou3
        obtain ⟨k, ts, ao, cap, hk, rfl, hF, hO, hW, hT⟩ := hrel
        by_cases hlt : k < n
        · have hkp : k < ps.length := by rw [← Hn.out]; exact hlt
          obtain ⟨x, hx⟩ : ∃ x, ps[k]? = some x := ⟨_, List.getElem?_eq_getElem hkp⟩
          have hc : wr.cell? ⟨bp, k, none⟩ = some (.string x) := by
            refine hF.cell ?_ (by simp; omega)
            rw [Hps.out k hkp]
            rw [List.getElem?_eq_getElem hkp] at hx
            rw [Option.some.inj hx]
          have hxd : (ps.map (·.data.toList))[k]? = some x.data.toList := by rw [List.getElem?_map, hx]; rfl
          have Hxd := Lib.hid hxd
          have HT := Lib.hid hT
          clear hxd hT hx
          go_upto_region 10 with fail
          clear hc
          have Hbad := Lib.hid (fun w' (hk' : Kp w w') (hn : Q.lineP s.data.toList = none) => show LinePost w s.data.toList badE w' from ⟨hk', by rw [hn]⟩)
          refine anyP_start (fun w => w.cell? ⟨b3, 1, none⟩ = some (.slice ao k cap)) 7 (fun a => a.defers = []) (fun c w' => c = badC ∧ Kp w w' ∧ Q.lineP s.data.toList = none) (by kernel_rfl) ?hp ?_
          case hp =>
            rintro c a w' hd ⟨rfl, hk', hn'⟩
            exact ⟨hd, Hbad.out _ hk' hn'⟩
          have hI : ∀ ops : Array Oper, Puts ops (fun a => a.defers = []) := fun _ _ o _ a v h => by
            unfold Act.put at h
            cases hd : o.dst <;> rw [hd] at h <;> exact h
          generalize hwq : wr.drew = wd
          have hkd : Kp wr wd := hwq ▸ (⟨rfl, rfl, rfl, Nat.le_refl _, fun _ _ => rfl⟩ : Kp wr wr.drew)
          clear hwq
          have hS := hkd.cell hO.c1
          refine anyP_take (hI _) [0, 2] (by kernel_rfl) hS ?_
          simp only [opsAt, List.getElem?_toArray, List.getElem?_cons_zero, List.getElem?_cons_succ]
          repeat (go_big_quiet_step (fail))
          refine wpQuiet_nil ?_
          refine anyP_load (hI _) 1 32 (.slice ao k cap) rfl rfl (by kernel_rfl) hS (fun w h => exec_load22 h rfl rfl) ?_
          simp only [Act.put, List.setIfInBounds_toArray, List.set_cons_zero, List.set_cons_succ]
          refine anyP_one 3 (by kernel_rfl) ?_
          simp only [opsAt, List.getElem?_toArray, List.getElem?_cons_zero, List.getElem?_cons_succ]
          have hkw : Kp w wr := ((Fr.of_kp Hk3.out).step hF (fun j hj => .inr (by simp at hj; omega))).kp
          have Hkw := Lib.hid (Kp.trans hkw hkd)
          clear hkw
          cases hw : Q.wordT x.data.toList with
          | none =>
            have hTk := token_any x wd
            unfold TokPost at hTk
            rw [hw] at hTk
            have HTk := Lib.hid hTk
            have Hno := Lib.hid (show Q.lineP s.data.toList = none by rw [Hr.out, ← bs_list r, ← Hpd.out, wordsT_bad Hxd.out hw]; rfl)
            clear hTk hw hS
            go_wp2_with fail
            (with_reducible refine HTk.out.mono ?_)
            rintro e w4 ⟨rfl, hk4⟩
            exact ⟨rfl, Kp.trans Hkw.out hk4, Hno.out⟩
          | some t =>
            have hTk := token_any x wd
            unfold TokPost at hTk
            rw [hw] at hTk
            have HTk := Lib.hid hTk
            have Hts := Lib.hid (wordsT_take Hxd.out HT.out hw)
            clear hTk hw
            go_wp2_with fail
            (with_reducible refine HTk.out.mono ?_)
            rintro e w4 ⟨rfl, hk4⟩
            have hS4 := hk4.cell hS
            go_wp2_with fail
            refine ⟨fun _ => hS4, ?_⟩
            refine anyP_one 4 (by kernel_rfl) ?_
            simp only [opsAt, List.getElem?_toArray, List.getElem?_cons_zero, List.getElem?_cons_succ]
            have hkn := Kp.new w4 (.cells #[iv t] 3)
            have hcs : Cs (w4.alloc (.cells #[iv t] 3)) (some ⟨w4.heap.size, 0, none⟩) [iv t] := Cs.new w4 [iv t] 3 (0, 0)
            have hS5 := hkn.cell hS4
            have hk45 : Kp wr (w4.alloc (.cells #[iv t] 3)) := Kp.trans (Kp.trans hkd hk4) hkn
            clear hS hS4
            go_wp2_with fail
            refine ⟨fun _ => hS5, ?_⟩
            generalize w4.alloc (.cells #[iv t] 3) = w5 at *
            obtain ⟨b4, hb4⟩ : ∃ b4, b4 = w4.heap.size := ⟨_, rfl⟩
            rw [← hb4] at hcs ⊢
            clear hb4 hkn
            refine anyP_one 5 (by kernel_rfl) ?_
            simp only [opsAt, List.getElem?_toArray, List.getElem?_cons_zero, List.getElem?_cons_succ]
            have hbs : w3.heap.size ≤ w5.heap.size := Nat.le_trans hF.size hk45.size
            go_wp2_with (at_builtin; go_loud (refine wpList_app rfl (.tmp 32) (.tmp 35) 22 rfl el22 w3.heap.size rfl (hW.keep hk45) rfl [iv t] rfl hcs (by simp [Value.oneCell']) (k + 1) rfl ((ts ++ [t]).map iv) (by simp) (by omega) hbs ?_); intro ao2 cap2 w6 ha)
            have hn3 : b3 ∉ blkL ao := fun h => by have := (hW.lt b3 (mem_blkL.1 h)).1; omega
            have hS6 := ha.fr.cell hS5 hn3
            refine ⟨fun _ => hS6, ?_⟩
            refine anyP_take (hI _) [6] (by kernel_rfl) hS6 ?_
            simp only [opsAt, List.getElem?_toArray, List.getElem?_cons_zero, List.getElem?_cons_succ]
            repeat (go_big_quiet_step (fail))
            refine wpQuiet_nil ?_
            refine anyP_one 7 (by kernel_rfl) ?_
            simp only [opsAt, List.getElem?_toArray, List.getElem?_cons_zero, List.getElem?_cons_succ]
            have hO6 := (hO.kp hk45).fr ha.fr hn3
            have hset := Fr.set w6 ⟨b3, 1, none⟩ (.slice ao2 (k + 1) cap2)
            have hn4 : ∀ j ∈ blkL ao2, j ∉ [b3] := fun j hj hq => by
              simp only [List.mem_singleton] at hq
              subst hq
              rcases ha.fresh _ (mem_blkL.1 hj) with h | h
              · exact hn3 (mem_blkL.2 h)
              · have := hF.size; have := hk45.size; omega
            have hF36 : Fr [b3] w3 w6 := (hF.trans ((Fr.of_kp hk45).mono (by simp))).step ha.fr (fun j hj => .inr (hW.lt j (mem_blkL.1 hj)).1)
            have Hfin := Lib.hid (And.intro (hF36.trans hset) (And.intro (hO6.set1 (.slice ao2 (k + 1) cap2)) (And.intro (hset.own ha.own hn4) Hts.out)))
            have hf6 := hO6.f1
            clear hset hO6 hn4 hO hS5 ha hcs hW hF hn3 hF36
            go_wp2_with fail
            refine ⟨fun h => absurd rfl h, ?_⟩
            refine anyP_end (by kernel_rfl) ?_
            clear hS6 hf6
            go_wp2_with fail
            go_roundw
            case rel => exact ⟨k + 1, ts ++ [t], ao2, cap2, by omega, by go_num, Hfin.out⟩
            case measure => simp [intOf]; omega
        · obtain rfl : k = n := by omega
          have Hyes := Lib.hid (show Q.lineP s.data.toList = some (1, ts) by
            rw [List.take_of_length_le (by rw [List.length_map, ← Hn.out]; exact Nat.le_refl _), Hpd.out, bs_list] at hT
            rw [Hr.out, hT]; rfl)
          have hR := Hre.out.fr hF (by simp; omega)
          have hkw : Kp w wr := ((Fr.of_kp Hk3.out).step hF (fun j hj => .inr (by simp at hj; omega))).kp
          have hset := Fr.set2 wr b2 (iv 1) (.slice ao k cap)
          have hnb : ∀ j ∈ blkL ao, j ∉ [b2] := fun j hj hq => by
            have := (hW.lt j (mem_blkL.1 hj)).1
            simp at hq; omega
          have Hfin := Lib.hid (And.intro ((Fr.of_kp hkw).step hset (fun j hj => .inr (by simp at hj; omega))).kp ((hset.own hW hnb).mono (fun j hj => by have := (hW.lt j hj).1; have := Hk3.out.size; omega) : Own _ w.heap.size 3 1 ao k cap (ts.map iv)))
          obtain ⟨wf, hwf, c0, c1⟩ := hR.set2 (iv 1) (.slice ao k cap)
          rw [← hwf] at Hfin
          have Hwf := Lib.hid hwf
          obtain ⟨x0, x1, x2, x3⟩ := hR
          obtain ⟨y0, y1, _, _⟩ := hO
          clear hset hnb hwf hF hW hT hkw
          go_wp2_with fail
          rw [← Hwf.out]
          show bodyPost Tryz.prog Tryz.f108 (LinePost w s.data.toList) .ret _ _
          refine bodyPost_ret (v := .agg #[iv 1, .slice ao k cap]) (by simp [results, Tryz.results108, go_sem, c0, c1]) rfl ?_
          refine ⟨Hfin.out.1, ?_⟩
          rw [Hyes.out]
          exact ⟨⟨ao, k, cap⟩, rfl, Hfin.out.2⟩
    · have hA' : Lib.hasPrefix s.data.toList Q.outR = false := by simpa using hA
      have hB' : Lib.hasPrefix s.data.toList Q.inR = false := by simpa using hB
      rw [hA'] at HA
      rw [hB'] at HB
      have Hr := Lib.hid (show Q.lineP s.data.toList = none by unfold Q.lineP; rw [if_neg hA, if_neg hB])
      clear hA hA' hB hB' hsl
      have hk := Kp.trans (Kp.new w (.cells #[iv 0, .slice none 0 0] 73)) (Kp.new (w.alloc (.cells #[iv 0, .slice none 0 0] 73)) (.cells #[iv 1, .slice none 0 0] 73))
      have Hk := Lib.hid hk
      clear hk
      go_enter Tryz.func108, Tryz.ntmps108
      go_wp2_with fail
      (with_reducible refine (HA.out _).mono ?_)
      rintro e w1 ⟨rfl, rfl⟩
      go_wp2_with fail
      (with_reducible refine (HB.out _).mono ?_)
      rintro e w1 ⟨rfl, rfl⟩
      go_wp2_with fail
      (with_reducible refine (ask_false _).mono ?_)
      rintro e w1 ⟨rfl, rfl⟩
      unfold badE
      go_wp2_with fail
      exact ⟨rfl, Hk.out, by rw [Hr.out]; rfl⟩
end Go.Proofs.YtkmejehhdjdlbaaGreatDoor

namespace Go.Proofs.YtkmejehhdjdlbaaGreatDoor
open Go.RowKit

theorem catch_idle (bP bK : Nat) (w : World) : CallsD Tryz.prog 104 #[.pointer (some ⟨bP, 0, none⟩), .pointer (some ⟨bK, 0, none⟩)] .returning w fun e u' w' => e = .returned (.tuple #[]) ∧ u' = .returning ∧ w' = w := by
  refine callsD_of_wpS Tryz.func104 rfl fun c₀ cs hu => ?_
  apply wpS_seq
  apply wpS_region
  simp [wpOpsS, go_sem, recoverD, hu, Tryz.ntmps104, Exit.thenS]
  apply wpS_seq
  apply wpS_region
  simp [wpOpsS, go_sem]
  refine wpS_cond (t := false) (by simp [Act.eval, Array.replicate]) ?_
  simp only [Bool.false_eq_true, if_false]
  refine wpS_of_wp (wp_skip ?_)
  cases c₀
  simp_all [bodyPostS, results, Tryz.results104]

/-- A pattern's four cells, which may be written. -/
structure Four (w : World) (b : Nat) (x y z u : Value) : Prop where
  c0 : w.cell? ⟨b, 0, none⟩ = some x
  c1 : w.cell? ⟨b, 1, none⟩ = some y
  c2 : w.cell? ⟨b, 2, none⟩ = some z
  c3 : w.cell? ⟨b, 3, none⟩ = some u
  f0 : w.frozen? ⟨b, 0, none⟩ = false
  f1 : w.frozen? ⟨b, 1, none⟩ = false
  f2 : w.frozen? ⟨b, 2, none⟩ = false
  f3 : w.frozen? ⟨b, 3, none⟩ = false
theorem Four.new (w : World) (x y z u : Value) (t : TypeId) : Four (w.alloc (.cells #[x, y, z, u] t)) w.heap.size x y z u := by
  refine ⟨?_, ?_, ?_, ?_, ?_, ?_, ?_, ?_⟩
  · rw [World.cell?_alloc_at _ _ _ _ rfl]; rfl
  · rw [World.cell?_alloc_at _ _ _ _ rfl]; rfl
  · rw [World.cell?_alloc_at _ _ _ _ rfl]; rfl
  · rw [World.cell?_alloc_at _ _ _ _ rfl]; rfl
  all_goals exact World.frozen?_alloc_at _ _ _ _ rfl
theorem Four.fr {X : List Nat} {w w' : World} {b : Nat} {x y z u : Value} (h : Four w b x y z u) (k : Fr X w w') (hb : b ∉ X) : Four w' b x y z u :=
  ⟨k.cell h.c0 hb, k.cell h.c1 hb, k.cell h.c2 hb, k.cell h.c3 hb, k.free h.c0 h.f0 hb, k.free h.c1 h.f1 hb, k.free h.c2 h.f2 hb, k.free h.c3 h.f3 hb⟩
theorem Four.kp {w w' : World} {b : Nat} {x y z u : Value} (h : Four w b x y z u) (k : Kp w w') : Four w' b x y z u := h.fr (Fr.of_kp k) (by simp)
/-- One cell, which may be written. -/
structure One1 (w : World) (b : Nat) (x : Value) : Prop where
  c : w.cell? ⟨b, 0, none⟩ = some x
  f : w.frozen? ⟨b, 0, none⟩ = false
theorem One1.new (w : World) (x : Value) (t : TypeId) : One1 (w.alloc (.cells #[x] t)) w.heap.size x := by
  refine ⟨?_, ?_⟩
  · rw [World.cell?_alloc_at _ _ _ _ rfl]; rfl
  · exact World.frozen?_alloc_at _ _ _ _ rfl
theorem One1.fr {X : List Nat} {w w' : World} {b : Nat} {x : Value} (h : One1 w b x) (k : Fr X w w') (hb : b ∉ X) : One1 w' b x := ⟨k.cell h.c hb, k.free h.c h.f hb⟩
theorem One1.kp {w w' : World} {b : Nat} {x : Value} (h : One1 w b x) (k : Kp w w') : One1 w' b x := h.fr (Fr.of_kp k) (by simp)
theorem Four.set {w : World} {b : Nat} {x y z u : Value} (h : Four w b x y z u) (x' y' z' u' : Value) : ∃ w', w' = (((w.setCell ⟨b, 0, none⟩ x').setCell ⟨b, 1, none⟩ y').setCell ⟨b, 2, none⟩ z').setCell ⟨b, 3, none⟩ u' ∧ Fr [b] w w' ∧ Four w' b x' y' z' u' := by
  refine ⟨_, rfl, (((Fr.set w ⟨b, 0, none⟩ x').trans (Fr.set _ ⟨b, 1, none⟩ y')).trans (Fr.set _ ⟨b, 2, none⟩ z')).trans (Fr.set _ ⟨b, 3, none⟩ u'), ⟨?_, ?_, ?_, ?_, ?_, ?_, ?_, ?_⟩⟩
  · rw [World.cell?_setCell_other _ _ _ _ (by simp), World.cell?_setCell_other _ _ _ _ (by simp), World.cell?_setCell_other _ _ _ _ (by simp)]
    exact World.cell?_setCell_same _ _ _ h.c0
  · rw [World.cell?_setCell_other _ _ _ _ (by simp), World.cell?_setCell_other _ _ _ _ (by simp)]
    exact World.cell?_setCell_same _ _ _ (by rw [World.cell?_setCell_other _ _ _ _ (by simp)]; exact h.c1)
  · rw [World.cell?_setCell_other _ _ _ _ (by simp)]
    exact World.cell?_setCell_same _ _ _ (by rw [World.cell?_setCell_other _ _ _ _ (by simp), World.cell?_setCell_other _ _ _ _ (by simp)]; exact h.c2)
  · exact World.cell?_setCell_same _ _ _ (by rw [World.cell?_setCell_other _ _ _ _ (by simp), World.cell?_setCell_other _ _ _ _ (by simp), World.cell?_setCell_other _ _ _ _ (by simp)]; exact h.c3)
  · simp only [World.frozen?_setCell]; exact h.f0
  · simp only [World.frozen?_setCell]; exact h.f1
  · simp only [World.frozen?_setCell]; exact h.f2
  · simp only [World.frozen?_setCell]; exact h.f3
theorem One1.set {w : World} {b : Nat} {x : Value} (h : One1 w b x) (y : Value) : One1 (w.setCell ⟨b, 0, none⟩ y) b y := ⟨World.cell?_setCell_same _ _ _ h.c, by rw [World.frozen?_setCell]; exact h.f⟩
set_option maxRecDepth 100000 in
set_option maxHeartbeats 2000000 in
theorem catch_bad (bP bK : Nat) (hne : bP ≠ bK) (w : World) (x y z u v : Value) (hP : Four w bP x y z u) (hK : One1 w bK v) :
    CallsD Tryz.prog 104 #[.pointer (some ⟨bP, 0, none⟩), .pointer (some ⟨bK, 0, none⟩)] (.panicking badC) w fun e u' w' =>
      e = .returned (.tuple #[]) ∧ u' = .panicking [{ v := .iface 147 (.agg #[]), recovered := true }] ∧ Fr [bP, bK] w w' ∧ Four w' bP (.string ⟨#[]⟩) (.slice none 0 0) (.slice none 0 0) (.slice none 0 0) ∧ One1 w' bK (.bool false) := by
  unfold badC
  refine callsD_of_wpS Tryz.func104 rfl fun c₀ cs hu => ?_
  apply wpS_seq
  apply wpS_region
  simp [wpOpsS, go_sem, recoverD, hu, Tryz.ntmps104, Exit.thenS]
  apply wpS_seq
  apply wpS_region
  simp [wpOpsS, go_sem]
  refine wpS_cond (t := true) (by simp [Act.eval, Array.replicate]) ?_
  simp only [if_true]
  obtain ⟨c0, c1, c2, c3, f0, f1, f2, f3⟩ := hP
  obtain ⟨k0, k1⟩ := hK
  have hk1 := Kp.new w (.cells #[] 147)
  have hP1 := Four.kp ⟨c0, c1, c2, c3, f0, f1, f2, f3⟩ hk1
  have hK1 := One1.kp ⟨k0, k1⟩ hk1
  clear c0 c1 c2 c3 f0 f1 f2 f3 k0 k1
  have hta : ∀ w, (Instr.typeAssert (.iface 147 (.agg #[])) 20 147 true).run Tryz.prog w = .ok (.tuple #[.agg #[], .bool true]) w := fun _ => by kernel_rfl
  refine wpS_of_wp ?_
  show Code.wp Tryz.prog _ _ { tmps := #[.pointer (some ⟨bP, 0, none⟩), .pointer (some ⟨bK, 0, none⟩), .iface 147 (.agg #[]), undef, undef, .iface 147 (.agg #[]), .iface 147 (.agg #[]), .bool true, undef, undef, undef, undef, undef, undef, undef, undef, undef], defers := [] } w
  go_upto_region 5 with fail
  generalize w.alloc (.cells #[] 147) = w1 at *
  obtain ⟨wf, hwf, hF, hP2⟩ := hP1.set (.string ⟨#[]⟩) (.slice none 0 0) (.slice none 0 0) (.slice none 0 0)
  have hK2 := hK1.fr hF (by simpa using fun h => hne h.symm)
  have hset := Fr.set wf ⟨bK, 0, none⟩ (.bool false)
  have hP3 := hP2.fr hset (by simpa using hne)
  have hK3 := hK2.set (.bool false)
  have hFF : Fr [bP, bK] w (wf.setCell ⟨bK, 0, none⟩ (.bool false)) := (((Fr.of_kp hk1).mono (by simp)).trans (hF.mono (by simp))).trans (hset.mono (by simp))
  rw [hwf] at hP3 hK3 hFF
  have Hfin := Lib.hid (And.intro hFF (And.intro hP3 hK3))
  obtain ⟨c0, c1, c2, c3, f0, f1, f2, f3⟩ := hP1
  obtain ⟨k0, k1⟩ := hK1
  clear hF hP2 hK2 hset hP3 hK3 hFF hk1 hwf
  go_wp2_with fail
  simp [bodyPostS, results, Tryz.results104]
  exact Hfin.out
end Go.Proofs.YtkmejehhdjdlbaaGreatDoor

namespace Go.Proofs.YtkmejehhdjdlbaaGreatDoor
open Go.RowKit

/-- A row of the call's own, or what lies behind the first elements of one. -/
def OwV (w : World) (B : Nat) (e : TypeId) (sz : Nat) (t : Tv) (xs : List Value) : Prop :=
  Own w B e sz t.ao t.n t.c xs ∨ ∃ g d pre, t.ao = some ⟨g, d * sz, none⟩ ∧ pre.length = d * sz ∧ xs.length = t.n * sz ∧ Own w B e sz (some ⟨g, 0, none⟩) (d + t.n) (d + t.c) (pre ++ xs)
section
variable {w w' : World} {B : Nat} {e : TypeId} {sz : Nat} {t : Tv} {xs : List Value}
theorem OwV.len (h : OwV w B e sz t xs) : xs.length = t.n * sz := by
  rcases h with h | ⟨g, d, pre, _, _, h, _⟩
  · exact h.1
  · exact h
theorem OwV.cap (h : OwV w B e sz t xs) : t.n ≤ t.c := by
  rcases h with h | ⟨g, d, pre, _, _, _, h⟩
  · exact h.cap
  · have := h.cap; omega
theorem OwV.cs (h : OwV w B e sz t xs) : Cs w t.ao xs := by
  rcases h with h | ⟨g, d, pre, e1, e2, _, h⟩
  · exact h.cs
  · intro j u hu
    obtain ⟨b, off, e3, hc⟩ := h.cs (d * sz + j) u (by rw [List.getElem?_append_right (by omega), e2, Nat.add_sub_cancel_left]; exact hu)
    simp only [Option.some.injEq, Addr.mk.injEq, and_true] at e3
    obtain ⟨rfl, rfl⟩ := e3
    exact ⟨g, d * sz, e1, by rw [Nat.zero_add] at hc; exact hc⟩
theorem OwV.lt (h : OwV w B e sz t xs) : ∀ x ∈ blkL t.ao, B ≤ x ∧ x < w.heap.size := by
  intro x hx
  rcases h with h | ⟨g, d, pre, e1, _, _, h⟩
  · exact h.lt x (mem_blkL.1 hx)
  · rw [e1] at hx
    have : x = g := by simpa [blkL, blk, eq_comm] using hx
    subst this
    exact h.lt x rfl
theorem OwV.fr {X : List Nat} (h : OwV w B e sz t xs) (k : Fr X w w') (hX : ∀ x ∈ blkL t.ao, x ∉ X) : OwV w' B e sz t xs := by
  rcases h with h | ⟨g, d, pre, e1, e2, e3, h⟩
  · exact .inl (k.own h hX)
  · refine .inr ⟨g, d, pre, e1, e2, e3, k.own h (fun x hx => hX x ?_)⟩
    rw [e1]
    simpa [blkL, blk] using hx
theorem OwV.kp (h : OwV w B e sz t xs) (k : Kp w w') : OwV w' B e sz t xs := h.fr (Fr.of_kp k) (by simp)
theorem OwV.mono {B' : Nat} (h : OwV w B e sz t xs) (hb : ∀ x ∈ blkL t.ao, B' ≤ x) : OwV w B' e sz t xs := by
  rcases h with h | ⟨g, d, pre, e1, e2, e3, h⟩
  · exact .inl (h.mono (fun x hx => hb x (mem_blkL.2 hx)))
  · refine .inr ⟨g, d, pre, e1, e2, e3, h.mono (fun x hx => hb x ?_)⟩
    rw [e1]
    exact mem_blkL.2 hx
/-- A place of the row, which may be written. -/
theorem OwV.at (h : OwV w B e sz t xs) (k : Nat) (hk : k < t.n * sz) : ∃ g off, t.ao = some ⟨g, off, none⟩ ∧ ∀ j, j < t.n * sz → w.cell? ⟨g, off + j, none⟩ = xs[j]? ∧ w.frozen? ⟨g, off + j, none⟩ = false ∧ ∀ u, OwV (w.setCell ⟨g, off + j, none⟩ u) B e sz t (xs.set j u) := by
  rcases h with h | ⟨g, d, pre, e1, e2, e3, h⟩
  · have hn : 0 < t.n := by
      rcases Nat.eq_zero_or_pos t.n with q | q
      · rw [q] at hk; simp at hk
      · exact q
    obtain ⟨g, _, hg, _⟩ := h.block hn
    rw [hg] at h
    refine ⟨g, 0, hg, fun j hj => ?_⟩
    rw [Nat.zero_add]
    refine ⟨h.cell j hj, h.free j, fun u => .inl ?_⟩
    rw [hg]
    exact h.store j u
  · refine ⟨g, d * sz, e1, fun j hj => ?_⟩
    refine ⟨?_, h.free _, fun u => .inr ⟨g, d, pre, e1, e2, by rw [List.length_set]; exact e3, ?_⟩⟩
    · rw [h.cell _ (by rw [Nat.add_mul]; omega), List.getElem?_append_right (by omega), e2, Nat.add_sub_cancel_left]
    · have := h.store (d * sz + j) u
      rwa [List.set_append_right _ _ (by omega), e2, Nat.add_sub_cancel_left] at this
end
/-- What an append of one element leaves. -/
structure Apv (w w' : World) (base : Nat) (e : TypeId) (size : Nat) (s : Tv) (N : Nat) (zs : List Value) (ao' : Option Addr) (cap' : Nat) : Prop where
  own : OwV w' base e size ⟨ao', N, cap'⟩ zs
  grown : w.grownBy w' (blk s.ao)
  move : ao' = s.ao ∨ w.grownBy w' none ∧ blk ao' = some w.heap.size
theorem Apv.fr {w w' : World} {base : Nat} {e : TypeId} {size : Nat} {s : Tv} {N : Nat} {zs : List Value} {ao' : Option Addr} {cap' : Nat} (h : Apv w w' base e size s N zs ao' cap') : Fr (blkL s.ao) w w' := Fr.of_grown h.grown
section app
variable {P : Program}
theorem run_apv (w : World) (base : Nat) (t ty e : TypeId) (z : Value) (size bytes : Nat) (E : El P t e z size bytes) (s : Tv) (xs : List Value) (hown : OwV w base e size s xs)
    (ad : Addr) (c : Nat) (news : List Value) (hl : news.length = size) (hcs : Cs w (some ad) news) (h1 : ∀ u ∈ news, u.oneCell' = true)
    (N : Nat) (hN : N = s.n + 1) (zs : List Value) (hzs : zs = xs ++ news) (hbytes : N * bytes ≤ 140737488355328) (hbase : base ≤ w.heap.size) :
    ∃ ao' cap' w', (Builtin.append_ #[t, t] ty #[.slice s.ao s.n s.c, .slice (some ad) 1 c]).run P w = .ok (.slice ao' N cap') w' ∧ Apv w w' base e size s N zs ao' cap' := by
  have hl1 : news.length = 1 * size := by omega
  have hlen := hown.len
  rcases hown with hown | ⟨g, d, pre, e1, e2, _, hown⟩
  · obtain ⟨ao', cap', w', hr, ha⟩ := run_app (P := P) w base t ty e z size bytes E s.ao s.n s.c xs hown (some ad) 1 c news hl1 hcs h1 N hN zs hzs hbytes hbase
    exact ⟨ao', cap', w', hr, .inl ha.own, ha.grown, ha.move⟩
  · subst hN; subst hzs
    have ht := E.und
    have hsz := E.pos
    obtain ⟨i, hi, hz, hsize, hby⟩ := info_parts E.info
    have h63 : s.n + 1 ≤ maxLen := by
      have h1 := E.bpos
      have h2 : (s.n + 1) * 1 ≤ (s.n + 1) * bytes := Nat.mul_le_mul_left _ h1
      unfold maxLen; omega
    have hnews : ∀ j u, news[j]? = some u → w.cell? (ad.add j) = some u := fun j u hu => by
      obtain ⟨b, o, e3, hc⟩ := hcs j u hu
      simp only [Option.some.injEq] at e3
      subst e3
      rw [Addr.add_lit]; exact hc
    have hsrc : Src P i.size t (.slice (some ad) 1 c) 1 news w := Src.ofSlice w ht ad 1 c news (by rw [hsize]; exact hl1) hnews h1
    rw [e1]
    subst hsize
    by_cases hroom : s.n + 1 ≤ s.c
    · obtain ⟨w1, hr1, ho1, hg1⟩ := run_append_fits (P := P) w base t ty e i i.size ht hi rfl g (d + s.n) (d + s.c) (pre ++ xs) hown ad 1 c news hl1 hnews h1 (by omega)
      obtain ⟨_, hc0⟩ := hown
      rcases hc0 with ⟨h0, _⟩ | ⟨g', cap', cur, hv, _, hg, _, _, hcs, _⟩
      · cases h0
      · cases hv
        have hin : ∀ j, j < news.length → (d + s.n) * i.size + j < cur.size := fun j hj => by
          rw [hcs]
          have : (d + s.n + 1) * i.size ≤ (d + s.c) * i.size := Nat.mul_le_mul_right _ (by omega)
          rw [Nat.add_mul (d + s.n)] at this
          omega
        have hcell : ∀ j, j < news.length → (w.cell? ⟨g, (d + s.n) * i.size + j, none⟩).isSome = true := fun j hj => by
          rw [cell_of_row w g _ cur e (0, 0) hg, Array.getElem?_eq_getElem (hin j hj)]; rfl
        have hfree : ∀ j, j < news.length → w.frozen? ⟨g, (d + s.n) * i.size + j, none⟩ = false := fun j _ => by
          unfold World.frozen?; simp [hg]
        have hr2 := run_append_room_src (P := P) w t t ty e i ht hi g 0 (d + s.n) (d + s.c) _ 1 news hsrc (by omega) (by rw [Nat.zero_add]; exact hcell) (by rw [Nat.zero_add]; exact hfree)
        rw [hr1] at hr2
        simp only [Result.ok.injEq, true_and, Nat.zero_add] at hr2
        have hr3 := run_append_room_src (P := P) w t t ty e i ht hi g (d * i.size) s.n s.c _ 1 news hsrc hroom (by rw [← Nat.add_mul]; exact hcell) (by rw [← Nat.add_mul]; exact hfree)
        rw [← Nat.add_mul, ← hr2] at hr3
        exact ⟨_, _, _, hr3, .inr ⟨g, d, pre, rfl, e2, by rw [List.length_append, hlen, hl, Nat.succ_mul], by rw [← List.append_assoc]; exact ho1⟩, by rw [e1]; exact hg1, .inl e1.symm⟩
    · have hge := grownCap_ge w (s.n + 1) s.c e
      have hcm : grownCap w (s.n + 1) s.c e ≤ maxLen := grownCap_le_maxLen w (s.n + 1) s.c e h63
      have hr := run_append_grow_src (P := P) w t t ty e i z ht hi hz (some ⟨g, d * i.size, none⟩) s.n s.c xs (run_firstCells_some w.drew i.size s.n ⟨g, d * i.size, none⟩ s.n s.c xs hlen (fun j u hu => by
          rw [Addr.add_lit]
          obtain ⟨b, off, e3, hc⟩ := hown.cs (d * i.size + j) u (by rw [List.getElem?_append_right (by omega), e2, Nat.add_sub_cancel_left]; exact hu)
          simp only [Option.some.injEq, Addr.mk.injEq, and_true] at e3
          obtain ⟨rfl, rfl⟩ := e3
          rw [Nat.zero_add] at hc
          exact hc)) _ 1 news hsrc (by omega) (by unfold maxLen at h63; omega) (growslice_fits (by omega) (by rw [hby]; exact hbytes))
      have hlen2 : (xs ++ news).length = (s.n + 1) * i.size := by rw [List.length_append, hlen, hl, Nat.succ_mul]
      refine ⟨_, _, _, hr, .inl ⟨hlen2, .inr ⟨w.heap.size, _, _, rfl, hbase, heap_alloc_new w.drew _, hge, hcm, ?_, ?_⟩⟩, ⟨rfl, rfl, rfl, by simp, fun k hk _ => Below.heap_alloc w.drew _ k hk⟩, .inr ⟨⟨rfl, rfl, rfl, by simp, fun k hk _ => Below.heap_alloc w.drew _ k hk⟩, rfl⟩⟩
      · rw [Array.size_append, List.size_toArray, hlen2, size_zeroCells, E.zs, ← Nat.add_mul]
        congr 1
        simp only
        omega
      · rw [Array.toList_append, ← hlen2]
        exact List.take_left
theorem wpList_apv {w : World} {ops : Array Oper} {rest : List Oper} {o : Oper} {a : Act} {Q : Exit → Act → World → Prop} (hgd : o.guard = none) (s x : Operand) (t : TypeId)
    (ho : o.op = .call { callee := .builtin .append, args := #[s, x], argTypes := #[t, t] })
    {e : TypeId} {z : Value} {size bytes : Nat} (E : El P t e z size bytes) (base : Nat)
    {ao : Option Addr} {n cap : Nat} {xs : List Value} (hs : a.eval s = .slice ao n cap) (hown : OwV w base e size ⟨ao, n, cap⟩ xs)
    {ad : Addr} {c : Nat} (hx : a.eval x = .slice (some ad) 1 c) (news : List Value) (hl : news.length = size) (hnews : Cs w (some ad) news) (h1 : ∀ u ∈ news, u.oneCell' = true)
    (N : Nat) (hN : N = n + 1) (zs : List Value) (hzs : zs = xs ++ news) (hbytes : N * bytes ≤ 140737488355328) (hbase : base ≤ w.heap.size)
    (h : ∀ ao' cap' w', Apv w w' base e size ⟨ao, n, cap⟩ N zs ao' cap' → wpList P ops Q rest (a.put o.dst (.slice ao' N cap')) w') : wpList P ops Q (o :: rest) a w :=
  wpList_plain hgd fun K hK => by
    obtain ⟨ao', cap', w', hr, h2⟩ := run_apv (P := P) w base t o.type e z size bytes E ⟨ao, n, cap⟩ xs hown ad c news hl hnews h1 N hN zs hzs hbytes hbase
    unfold Oper.wp execOp
    simp only [ho, resolve, invoke, builtin, Sem.run_bind, Sem.run_pure, Result.andThen_ok, List.map_toArray, List.map_cons, List.map_nil, hs, hx, hr]
    exact hK _ _ (h ao' cap' w' h2)
end app
end Go.Proofs.YtkmejehhdjdlbaaGreatDoor

namespace Go.Proofs.YtkmejehhdjdlbaaGreatDoor
open Go.RowKit

def rep (n : Nat) (cs : List Value) : List Value := (List.replicate n cs).flatten
theorem rep_zero (cs : List Value) : rep 0 cs = [] := rfl
theorem rep_step (n : Nat) (cs : List Value) : rep (n + 1) cs = cs ++ rep n cs := by unfold rep; rw [List.replicate_succ, List.flatten_cons]
theorem rep_len (n : Nat) (cs : List Value) : (rep n cs).length = n * cs.length := by
  induction n with
  | zero => simp [rep_zero]
  | succ n ih => rw [rep_step, List.length_append, ih, Nat.succ_mul]; omega
theorem rep_add (n k : Nat) (cs : List Value) : rep (n + k) cs = rep n cs ++ rep k cs := by
  induction n with
  | zero => simp [rep_zero]
  | succ n ih => rw [show n + 1 + k = n + k + 1 by omega, rep_step, ih, rep_step, List.append_assoc]
theorem rep_succ (n : Nat) (cs : List Value) : rep (n + 1) cs = rep n cs ++ cs := by rw [rep_add]; simp [rep]
theorem rep_get (cs : List Value) {n k q : Nat} (hk : k < n) (hq : q < cs.length) : (rep n cs)[k * cs.length + q]? = cs[q]? := by
  obtain ⟨m, rfl⟩ : ∃ m, n = k + (m + 1) := ⟨n - k - 1, by omega⟩
  rw [rep_add, List.getElem?_append_right (by rw [rep_len]; omega), rep_len, Nat.add_sub_cancel_left, rep_step, List.getElem?_append_left hq]
theorem Cs.pre' {w : World} {ao : Option Addr} {xs ys : List Value} (h : Cs w ao (xs ++ ys)) : Cs w ao xs := fun j u hu => h j u (by
  rw [List.getElem?_append_left (List.getElem?_eq_some_iff.1 hu).1]; exact hu)
theorem Kp.grow {w w' : World} (h : w.grownBy w' none) : Kp w w' := (Below.refl _ _).grown h (Nat.le_refl _) (fun k hk => by cases hk)

/-- A row has been gone on from by k elements (u is what has come of it), from the world W on. -/
structure Chn (W w : World) (B : Nat) (e : TypeId) (sz : Nat) (t : Tv) (xs cs : List Value) (k : Nat) (u : Tv) : Prop where
  new : OwV w B e sz u (xs ++ rep k cs)
  un : u.n = t.n + k
  old : Cs w t.ao xs
  lt : ∀ x ∈ blkL t.ao, x < W.heap.size
  fr : Fr (blkL t.ao) W w
  pl : u.ao = t.ao ∨ ∀ x ∈ blkL u.ao, W.heap.size ≤ x
section
variable {W w w' : World} {B : Nat} {e : TypeId} {sz : Nat} {t u : Tv} {xs cs : List Value} {k : Nat}
theorem Chn.start (h : OwV W B e sz t xs) : Chn W W B e sz t xs cs 0 t :=
  ⟨by rw [rep_zero, List.append_nil]; exact h, rfl, h.cs, fun x hx => (h.lt x hx).2, Fr.refl _ _, .inl rfl⟩
theorem Chn.kp (h : Chn W w B e sz t xs cs k u) (q : Kp w w') : Chn W w' B e sz t xs cs k u :=
  ⟨h.new.kp q, h.un, q.cs h.old, h.lt, h.fr.trans ((Fr.of_kp q).mono (by simp)), h.pl⟩
theorem Chn.app {ao' : Option Addr} {cap' N : Nat} {zs : List Value} (h : Chn W w B e sz t xs cs k u) (hN : N = t.n + (k + 1)) (hz : zs = xs ++ rep (k + 1) cs) (ha : Apv w w' B e sz u N zs ao' cap') : Chn W w' B e sz t xs cs (k + 1) ⟨ao', N, cap'⟩ := by
  subst hN
  have hsz := h.fr.size
  refine ⟨by rw [← hz]; exact ha.own, rfl, ?_, h.lt, h.fr.step ha.fr (fun j hj => ?_), ?_⟩
  · rcases h.pl with q | q
    · rcases ha.move with m | ⟨m, _⟩
      · have := ha.own.cs
        rw [hz] at this
        have := Cs.pre' this
        rw [show (⟨ao', t.n + (k + 1), cap'⟩ : Tv).ao = ao' from rfl, m, q] at this
        exact this
      · exact (Kp.grow m).cs h.old
    · exact ha.fr.cs h.old (fun x hx hq => by have := h.lt x hx; have := q x hq; omega)
  · rcases h.pl with q | q
    · exact .inl (q ▸ hj)
    · exact .inr (q j hj)
  · rcases ha.move with m | ⟨_, m⟩
    · rcases h.pl with q | q
      · exact .inl (m.trans q)
      · exact .inr (fun x hx => q x (by rw [← m]; exact hx))
    · exact .inr (fun x hx => by
        have h1 : blk ao' = some x := mem_blkL.1 hx
        rw [m] at h1
        have := Option.some.inj h1
        omega)
end

/-- The first i rows have been gone on from, each by K elements; G is what has come of them, and lies in the row lg. -/
structure Lng (w : World) (B N0 : Nat) (e : TypeId) (sz : Nat) (et : TypeId) (K : Nat) (T : List Tv) (X c : Nat → List Value) (i : Nat) (lg : Tv) (G : List Tv) : Prop where
  gl : G.length = i
  own : ∀ (j : Nat) (t : Tv), i ≤ j → T[j]? = some t → OwV w B e sz t (X j)
  row : ∀ (j : Nat) (t : Tv), T[j]? = some t → Cs w t.ao (X j)
  lgo : Own w N0 et 1 lg.ao lg.n lg.c (G.map tvv)
  gro : ∀ (j : Nat) (g t : Tv), G[j]? = some g → T[j]? = some t → g.n = t.n + K ∧ Cs w g.ao (X j ++ rep K (c j)) ∧ ∀ x ∈ blkL g.ao, x < w.heap.size ∧ (x ∈ blkL t.ao ∨ N0 ≤ x) ∧ x ∉ blkL lg.ao
  dj : ∀ (i j x : Nat) (t u : Tv), T[i]? = some t → T[j]? = some u → x ∈ blkL t.ao → x ∈ blkL u.ao → i = j
  lo : ∀ (j : Nat) (t : Tv), T[j]? = some t → ∀ x ∈ blkL t.ao, x < N0
  sz0 : N0 ≤ w.heap.size
section
variable {W w w1 w2 : World} {B N0 : Nat} {e : TypeId} {sz : Nat} {et : TypeId} {K : Nat} {T : List Tv} {X c : Nat → List Value} {i : Nat} {lg : Tv} {G : List Tv}
theorem Lng.kp (L : Lng W B N0 e sz et K T X c i lg G) (k : Kp W w) : Lng w B N0 e sz et K T X c i lg G :=
  ⟨L.gl, fun j t hj ht => (L.own j t hj ht).kp k, fun j t ht => k.cs (L.row j t ht), L.lgo.keep k, fun j g t hg ht => ⟨(L.gro j g t hg ht).1, k.cs (L.gro j g t hg ht).2.1, fun x hx => ⟨Nat.lt_of_lt_of_le ((L.gro j g t hg ht).2.2 x hx).1 k.size, ((L.gro j g t hg ht).2.2 x hx).2⟩⟩, L.dj, L.lo, Nat.le_trans L.sz0 k.size⟩
theorem Lng.n (L : Lng W B N0 e sz et K T X c i lg G) : lg.n = i := by
  have := L.lgo.1
  rw [List.length_map, L.gl] at this
  omega
theorem Lng.next {t u : Tv} {ao' : Option Addr} {cap' N : Nat} {zs : List Value} (L : Lng W B N0 e sz et K T X c i lg G) (ht : T[i]? = some t) (h : Chn W w B e sz t (X i) (c i) K u) (k : Kp w w1) (hN : N = i + 1) (hz : zs = (G ++ [u]).map tvv)
    (ha : Appd w1 w2 N0 et 1 lg.ao lg.c 1 N zs ao' cap') : Lng w2 B N0 e sz et K T X c (i + 1) ⟨ao', N, cap'⟩ (G ++ [u]) ∧ Fr (blkL t.ao ++ blkL lg.ao) W w2 := by
  subst hN; subst hz
  have F1 : Fr (blkL t.ao) W w1 := h.fr.trans ((Fr.of_kp k).mono (by simp))
  have F2 : Fr (blkL lg.ao) w1 w2 := ha.fr
  have s1 := h.fr.size
  have s2 := k.size
  have s3 := F2.size
  have hsz0 := L.sz0
  have hlg : ∀ x ∈ blkL lg.ao, N0 ≤ x ∧ x < W.heap.size := fun x hx => L.lgo.lt x (mem_blkL.1 hx)
  have hT : ∀ (j : Nat) (t' : Tv), T[j]? = some t' → ∀ x ∈ blkL t'.ao, x ∉ blkL lg.ao := fun j t' ht' x hx hq => by have := L.lo j t' ht' x hx; have := hlg x hq; omega
  have hTi : ∀ (j : Nat) (t' : Tv), j ≠ i → T[j]? = some t' → ∀ x ∈ blkL t'.ao, x ∉ blkL t.ao := fun j t' hne ht' x hx hq => hne (L.dj j i x t' t ht' ht hx hq)
  have hnew : ∀ x ∈ blkL ao', x ∈ blkL lg.ao ∨ x = w1.heap.size := fun x hx => by
    rcases ha.fresh x (mem_blkL.1 hx) with q | q
    · exact .inl (mem_blkL.2 q)
    · exact .inr q
  refine ⟨⟨by rw [List.length_append, L.gl]; rfl, fun j t' hj ht' => ?_, fun j t' ht' => ?_, ha.own, fun j g t' hg ht' => ?_, L.dj, L.lo, by omega⟩, (F1.mono (fun x hx => List.mem_append_left _ hx)).trans (F2.mono (fun x hx => List.mem_append_right _ hx))⟩
  · exact ((L.own j t' (by omega) ht').fr F1 (hTi j t' (by omega) ht')).fr F2 (hT j t' ht')
  · by_cases q : j = i
    · subst q
      rw [ht] at ht'
      cases ht'
      exact F2.cs (k.cs h.old) (hT j t ht)
    · exact F2.cs (F1.cs (L.row j t' ht') (hTi j t' q ht')) (hT j t' ht')
  · by_cases q : j = i
    · subst q
      rw [ht] at ht'
      cases ht'
      rw [List.getElem?_append_right (by rw [L.gl]; exact Nat.le_refl _), L.gl, Nat.sub_self] at hg
      simp only [List.getElem?_cons_zero, Option.some.injEq] at hg
      subst hg
      have hu : ∀ x ∈ blkL u.ao, x < w.heap.size ∧ (x ∈ blkL t.ao ∨ N0 ≤ x) ∧ x ∉ blkL lg.ao := fun x hx => by
        have h1 := (h.new.lt x hx).2
        rcases h.pl with p | p
        · rw [p] at hx
          exact ⟨h1, .inl hx, hT j t ht x hx⟩
        · have h2 := p x hx
          exact ⟨h1, .inr (by omega), fun hq => by have := hlg x hq; omega⟩
      refine ⟨h.un, F2.cs (k.cs h.new.cs) (fun x hx => (hu x hx).2.2), fun x hx => ⟨by have := (hu x hx).1; omega, (hu x hx).2.1, fun hq => ?_⟩⟩
      rcases hnew x hq with p | p
      · exact (hu x hx).2.2 p
      · have := (hu x hx).1; omega
    · have hj : j < i := by
        have := (List.getElem?_eq_some_iff.1 hg).1
        rw [List.length_append, L.gl] at this
        simp at this
        omega
      rw [List.getElem?_append_left (by rw [L.gl]; exact hj)] at hg
      obtain ⟨g1, g2, g3⟩ := L.gro j g t' hg ht'
      have hx1 : ∀ x ∈ blkL g.ao, x ∉ blkL t.ao := fun x hx hq => by
        rcases (g3 x hx).2.1 with p | p
        · exact hTi j t' q ht' x p hq
        · have := L.lo i t ht x hq; omega
      refine ⟨g1, F2.cs (F1.cs g2 hx1) (fun x hx => (g3 x hx).2.2), fun x hx => ⟨by have := (g3 x hx).1; omega, (g3 x hx).2.1, fun hq => ?_⟩⟩
      rcases hnew x hq with p | p
      · exact (g3 x hx).2.2 p
      · have := (g3 x hx).1; omega
theorem Lng.start (h1 : ∀ (j : Nat) (t : Tv), T[j]? = some t → OwV W B e sz t (X j)) (dj : ∀ (i j x : Nat) (t u : Tv), T[i]? = some t → T[j]? = some u → x ∈ blkL t.ao → x ∈ blkL u.ao → i = j) : Lng W B W.heap.size e sz et K T X c 0 ⟨none, 0, 0⟩ [] :=
  ⟨rfl, fun j t _ ht => h1 j t ht, fun j t ht => (h1 j t ht).cs, Own.nil _ _ _ _, fun j g t hg => by simp at hg, dj, fun j t ht x hx => ((h1 j t ht).lt x hx).2, Nat.le_refl _⟩
end

/-- The first i rows have been written over, and the first k elements of row i. -/
structure Fil (w : World) (B : Nat) (e : TypeId) (sz : Nat) (T : List Tv) (c : Nat → List Value) (i k : Nat) : Prop where
  own : ∀ (j : Nat) (t : Tv), T[j]? = some t → ∃ xs, OwV w B e sz t xs ∧ (j < i → xs = rep t.n (c j)) ∧ (j = i → xs.take (k * sz) = rep k (c i))
  dj : ∀ (i j x : Nat) (t u : Tv), T[i]? = some t → T[j]? = some u → x ∈ blkL t.ao → x ∈ blkL u.ao → i = j
section
variable {w w' : World} {B : Nat} {e : TypeId} {sz : Nat} {T : List Tv} {c : Nat → List Value} {i k : Nat}
theorem Fil.fr {X : List Nat} (h : Fil w B e sz T c i k) (f : Fr X w w') (hX : ∀ (j : Nat) (t : Tv), T[j]? = some t → ∀ x ∈ blkL t.ao, x ∉ X) : Fil w' B e sz T c i k :=
  ⟨fun j t ht => by obtain ⟨xs, h1, h2⟩ := h.own j t ht; exact ⟨xs, h1.fr f (hX j t ht), h2⟩, h.dj⟩
theorem Fil.kp (h : Fil w B e sz T c i k) (q : Kp w w') : Fil w' B e sz T c i k := h.fr (Fr.of_kp q) (by simp)
theorem Fil.start (h1 : ∀ (j : Nat) (t : Tv), T[j]? = some t → ∃ xs, OwV w B e sz t xs) (dj : ∀ (i j x : Nat) (t u : Tv), T[i]? = some t → T[j]? = some u → x ∈ blkL t.ao → x ∈ blkL u.ao → i = j) : Fil w B e sz T c 0 0 :=
  ⟨fun j t ht => by obtain ⟨xs, h⟩ := h1 j t ht; exact ⟨xs, h, fun q => absurd q (by omega), fun _ => by rw [Nat.zero_mul, List.take_zero]; rfl⟩, dj⟩
/-- A row is whole. -/
theorem Fil.row {t : Tv} (h : Fil w B e sz T c i k) (ht : T[i]? = some t) (hk : t.n ≤ k) (hk2 : k ≤ t.n) : Fil w B e sz T c (i + 1) 0 := by
  obtain rfl : k = t.n := by omega
  refine ⟨fun j u hu => ?_, h.dj⟩
  obtain ⟨xs, h1, h2, h3⟩ := h.own j u hu
  refine ⟨xs, h1, fun q => ?_, fun _ => by rw [Nat.zero_mul, List.take_zero]; rfl⟩
  by_cases p : j = i
  · subst p
    rw [ht] at hu
    cases hu
    have := h3 rfl
    rwa [List.take_of_length_le (by rw [h1.len]; exact Nat.le_refl _)] at this
  · exact h2 (by omega)
theorem Fil.done (h : Fil w B e sz T c i k) (hi : T.length ≤ i) : ∀ (j : Nat) (t : Tv), T[j]? = some t → OwV w B e sz t (rep t.n (c j)) := fun j t ht => by
  obtain ⟨xs, h1, h2, _⟩ := h.own j t ht
  rw [← h2 (by have := (List.getElem?_eq_some_iff.1 ht).1; omega)]
  exact h1
/-- An element of one cell is written. -/
theorem Fil.store1 {t : Tv} {v : Value} (h : Fil w B e 1 T c i k) (ht : T[i]? = some t) (hk : k < t.n) (hc : c i = [v]) : ∃ g off, t.ao = some ⟨g, off, none⟩ ∧ B ≤ g ∧ g < w.heap.size ∧ (∃ u, w.cell? ⟨g, off + k, none⟩ = some u) ∧ w.frozen? ⟨g, off + k, none⟩ = false ∧
    Fil (w.setCell ⟨g, off + k, none⟩ v) B e 1 T c i (k + 1) := by
  obtain ⟨xs, h1, h2, h3⟩ := h.own i t ht
  obtain ⟨g, off, ea, hat⟩ := h1.at k (by omega)
  have hg := h1.lt g (by rw [ea]; simp [blkL, blk])
  obtain ⟨c1, c2, c3⟩ := hat k (by omega)
  have hl := h1.len
  refine ⟨g, off, ea, hg.1, hg.2, ⟨_, by rw [c1, List.getElem?_eq_getElem (by omega)]⟩, c2, fun j u hu => ?_, h.dj⟩
  by_cases q : j = i
  · subst q
    rw [ht] at hu
    cases hu
    refine ⟨_, c3 v, fun p => absurd p (by omega), fun _ => ?_⟩
    have h4 := h3 rfl
    rw [Nat.mul_one] at h4
    rw [Nat.mul_one, rep_succ, hc, ← hc, ← h4, hc, List.take_succ_eq_append_getElem (by rw [List.length_set]; omega), List.getElem_set_self, List.take_set_of_le (Nat.le_refl _)]
  · obtain ⟨ys, g1, g2, g3⟩ := h.own j u hu
    refine ⟨ys, g1.fr (Fr.set w ⟨g, off + k, none⟩ v) (fun x hx hy => ?_), g2, fun p => absurd p q⟩
    simp only [List.mem_singleton] at hy
    subst hy
    exact q (h.dj j i _ u t hu ht hx (by rw [ea]; simp [blkL, blk]))
end
end Go.Proofs.YtkmejehhdjdlbaaGreatDoor
