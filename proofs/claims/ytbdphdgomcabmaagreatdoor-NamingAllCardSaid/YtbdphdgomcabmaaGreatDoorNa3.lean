/- Parts of the walks and plain laws, merged: Check, Ints, Much, Open, Law, OpenN, PatO, Loads, PatP, QCheck, QOnce, QMod, QNam, Dig, Sep, TxtC, TxtD. Each theorem bears its own conditions; no other. -/
import Derived.Test.YtbdphdgomcabmaaGreatDoorShaped
import Derived.Test.YtbdphdgomcabmaaGreatDoorNa1
import Derived.Deep.QuietTactic
import Derived.Deep.SlicePairs
import Derived.OpenShut
import Derived.Test.YtbdphdgomcabmaaGreatDoorCards
import Derived.Test.YtbdphdgomcabmaaGreatDoorTie
import Derived.ProofKit
import Derived.Deep.DeepHandedRow
import Derived.Stop.LaidErr
import Derived.Lay
import Derived.Test.YtbdphdgomcabmaaGreatDoorNa2
import Derived.Tactics2
import Derived.Defers
import Derived.Recover
import Derived.Laws.Pointers
namespace Go.Proofs.YtbdphdgomcabmaaGreatDoor
open Go.RowKit

def S0 : Nat → Bool := fun _ => false
def begunL (b0 b1 : List Int) : Nat → Bool := b1.foldl (fun S t => upd S (3 + t).toNat true) (b0.foldl (fun S t => upd S t.toNat true) S0)
def runToks (S : Nat → Bool) (f : Int) : List Int → Nat × (Nat → Bool)
  | [] => (0, S)
  | t :: r => if offL S f t r.isEmpty = 0 then runToks (tookL S f t) f r else (offL S f t r.isEmpty, S)
def runLs (S : Nat → Bool) : List Ln → Nat × (Nat → Bool)
  | [] => (0, S)
  | l :: r => if (runToks S l.1 l.2).1 = 0 then runLs (runToks S l.1 l.2).2 r else runToks S l.1 l.2
def oneWay (ls : List Ln) : Bool := ls.length == 1 && (ls[0]?).map (·.1) == some 0
def endL (S : Nat → Bool) (ls : List Ln) : Nat := if !safeL S 0 || (!oneWay ls && !safeL S 1) then 12 else 0
/-- The number of the error; 0: none. -/
def checkL (b0 b1 : List Int) (ls : List Ln) : Nat :=
  if shapedL b0 b1 ls then (if (runLs (begunL b0 b1) ls).1 = 0 then endL (runLs (begunL b0 b1) ls).2 ls else (runLs (begunL b0 b1) ls).1) else 9

theorem okB_mem {l : List Int} (h : okB l = true) : ∀ j (hj : j < l.length), l[j] = 1 ∨ l[j] = 2 := by
  match l, h with
  | [], _ => intro j hj; simp at hj
  | [x], h => intro j hj; obtain rfl : j = 0 := by simpa using hj
              simpa [okB] using h
  | [x, y], h =>
    intro j hj
    simp only [okB, Bool.and_eq_true, beq_iff_eq] at h
    obtain ⟨rfl, rfl⟩ := h
    rcases (show j = 0 ∨ j = 1 by simp at hj; omega) with rfl | rfl
    · left; rfl
    · right; rfl
  | _ :: _ :: _ :: _, h => simp [okB] at h

theorem linesOk_mem {ls : List Ln} : ∀ {prev : Option Int} {n : Nat}, linesOk prev n ls = true → ∀ j (h : j < ls.length), (ls[j].1 = 0 ∨ ls[j].1 = 1) ∧ 0 < ls[j].2.length ∧ ∀ i (hi : i < ls[j].2.length), 1 ≤ ls[j].2[i] ∧ ls[j].2[i] ≤ 7 := by
  induction ls with
  | nil => intro _ _ _ j h; simp at h
  | cons l r ih =>
    intro prev n hl j h
    simp only [linesOk, Bool.and_eq_true] at hl
    obtain ⟨⟨⟨h1, h2⟩, h3⟩, h4⟩ := hl
    rcases j with _ | j
    · simp only [headOk, Bool.and_eq_true, Bool.or_eq_true, beq_iff_eq, bne_iff_ne] at h1
      refine ⟨h1.1.1, by have := h1.2; simp only [List.getElem_cons_zero]; omega, fun i hi => ?_⟩
      have := List.all_eq_true.1 h2 _ (List.getElem_mem hi)
      simpa using this
    · exact ih h4 j (by simpa using h)
theorem shapedL_mem {b0 b1 : List Int} {ls : List Ln} (h : shapedL b0 b1 ls = true) : okB b0 = true ∧ okB b1 = true ∧ 0 < ls.length ∧ ∀ j (h : j < ls.length), (ls[j].1 = 0 ∨ ls[j].1 = 1) ∧ 0 < ls[j].2.length ∧ ∀ i (hi : i < ls[j].2.length), 1 ≤ ls[j].2[i] ∧ ls[j].2[i] ≤ 7 := by
  simp only [shapedL, Bool.and_eq_true, bne_iff_ne] at h
  exact ⟨h.1.1.1, h.1.1.2, by omega, linesOk_mem h.2⟩

def foldSet (S : Nat → Bool) (d : Int) (l : List Int) : Nat → Bool := l.foldl (fun S t => upd S (d + t).toNat true) S
theorem foldSet_succ (S : Nat → Bool) (d : Int) (l : List Int) (k : Nat) (h : k < l.length) : foldSet S d (l.take (k + 1)) = upd (foldSet S d (l.take k)) (d + l[k]).toNat true := by
  unfold foldSet
  rw [take_step l k h, List.foldl_append]; rfl
theorem begunL_eq (b0 b1 : List Int) : begunL b0 b1 = foldSet (foldSet S0 0 b0) 3 b1 := by
  unfold begunL foldSet
  simp only [Int.zero_add]
theorem runToks_at (S : Nat → Bool) (f : Int) (ts : List Int) (j : Nat) (h : j < ts.length) : runToks S f (ts.drop j) = if offL S f ts[j] (j + 1 == ts.length) = 0 then runToks (tookL S f ts[j]) f (ts.drop (j + 1)) else (offL S f ts[j] (j + 1 == ts.length), S) := by
  rw [drop_cons ts j h, runToks]
  have : (ts.drop (j + 1)).isEmpty = (j + 1 == ts.length) := by
    rw [Bool.eq_iff_iff]; simp; omega
  rw [this]
theorem runLs_at (S : Nat → Bool) (ls : List Ln) (k : Nat) (h : k < ls.length) : runLs S (ls.drop k) = if (runToks S ls[k].1 ls[k].2).1 = 0 then runLs (runToks S ls[k].1 ls[k].2).2 (ls.drop (k + 1)) else runToks S ls[k].1 ls[k].2 := by
  rw [drop_cons ls k h, runLs]

theorem kp_step2 {w0 w w' : World} {b : Nat} (hk : Kp w0 w) (k : Fr [b] w w') (h : w0.heap.size < b) : Kp w0 w' := ((Fr.of_kp hk).step k (fun j hj => .inr (by simp only [List.mem_singleton] at hj; omega))).kp
theorem newWalk (w : World) : WalkAt (w.alloc (.cells #[.bool false, .bool false, .bool false, .bool false, .bool false, .bool false, .bool false, .bool false, .bool false, .bool false, .bool false, .bool false, .bool false, .bool false] 83)) w.heap.size S0 := fun j hj => by
  constructor
  · rw [World.cell?_alloc_at _ _ _ _ rfl]
    rcases (show j = 0 ∨ j = 1 ∨ j = 2 ∨ j = 3 ∨ j = 4 ∨ j = 5 ∨ j = 6 ∨ j = 7 ∨ j = 8 ∨ j = 9 ∨ j = 10 ∨ j = 11 ∨ j = 12 ∨ j = 13 by omega) with rfl | rfl | rfl | rfl | rfl | rfl | rfl | rfl | rfl | rfl | rfl | rfl | rfl | rfl <;> rfl
  · exact World.frozen?_alloc_at _ _ _ _ rfl

set_option maxRecDepth 100000 in
set_option maxHeartbeats 4000000 in
theorem check_any (w : World) (E : Nat → Addr) (hE : Errs w E) (nm : ByteArray) (a0 a1 al : Option Addr) (n0 c0 n1 c1 nl cl : Nat) (b0 b1 : List Int) (ls : List Ln) (h0 : Is w a0 n0 b0) (h1 : Is w a1 n1 b1) (hl : Lns w al nl ls) :
    Calls Tryz.prog 20 #[.agg #[.string nm, .slice a0 n0 c0, .slice a1 n1 c1, .slice al nl cl]] w fun e w' => e = .returned (errV E (checkL b0 b1 ls)) ∧ Kp w w' := by
  have hnl := hl.2.1
  have Hll := Lib.hid hl.1
  have hnew : ∀ j v, [Value.string nm, .slice a0 n0 c0, .slice a1 n1 c1, .slice al nl cl][j]? = some v → (w.alloc (.cells #[.string nm, .slice a0 n0 c0, .slice a1 n1 c1, .slice al nl cl] 26)).cell? ⟨w.heap.size, j, none⟩ = some v := by
    intro j v hv
    rw [World.cell?_alloc_at _ _ _ _ rfl]
    simpa using hv
  have Hnew := Lib.hid hnew; clear hnew
  have i0 : ∀ w, (Instr.index 23 (.agg #[.slice a0 n0 c0, .slice a1 n1 c1]) (.int .i64 0)).run Tryz.prog w = .ok (.slice a0 n0 c0) w := fun _ => by kernel_rfl
  have i1 : ∀ w, (Instr.index 23 (.agg #[.slice a0 n0 c0, .slice a1 n1 c1]) (.int .i64 1)).run Tryz.prog w = .ok (.slice a1 n1 c1) w := fun _ => by kernel_rfl
  go_enter Tryz.func20, Tryz.ntmps20
  go_wp2_with fail
  (with_reducible refine (shaped_any _ nm a0 a1 al n0 c0 n1 c1 nl cl b0 b1 ls (Kp.is (Kp.new _ _) h0) (Kp.is (Kp.new _ _) h1) (Kp.lns (Kp.new _ _) hl)).mono ?_)
  rintro e w1 ⟨rfl, hk1⟩
  have hkw := Kp.trans (Kp.new _ _) hk1
  have hE1 := Kp.errs hkw hE
  cases hs : shapedL b0 b1 ls with
  | false =>
    have HF := Lib.hid (show checkL b0 b1 ls = 9 by unfold checkL; rw [hs]; rfl)
    have e9 := hE1.1
    clear hs
    go_wp2_with fail
    go_ret
    exact ⟨by rw [HF.out]; rfl, hkw⟩
  | true =>
    obtain ⟨hb0, hb1, hl0, hmem⟩ := shapedL_mem hs
    have HF := Lib.hid (show checkL b0 b1 ls = if (runLs (begunL b0 b1) ls).1 = 0 then endL (runLs (begunL b0 b1) ls).2 ls else (runLs (begunL b0 b1) ls).1 by unfold checkL; rw [hs]; rfl)
    have y1 := fun o => Kp.cell (Kp.new w1 o) (Kp.cell hk1 (Hnew.out 1 _ rfl))
    have y2 := fun o => Kp.cell (Kp.new w1 o) (Kp.cell hk1 (Hnew.out 2 _ rfl))
    have y3 := fun o => Kp.cell (Kp.new w1 o) (Kp.cell hk1 (Hnew.out 3 _ rfl))
    have Hb0 := Lib.hid (okB_mem hb0)
    have Hb1 := Lib.hid (okB_mem hb1)
    have Hmem := Lib.hid hmem
    clear hs hb0 hb1 hmem
    go_wp2_with fail
    have hW := newWalk w1
    have hlt1 : w.heap.size < w1.heap.size := by have := hk1.size; simp at this; omega
    have hkb := Kp.trans hkw (Kp.new w1 (.cells #[.bool false, .bool false, .bool false, .bool false, .bool false, .bool false, .bool false, .bool false, .bool false, .bool false, .bool false, .bool false, .bool false, .bool false] 83))
    have y1 := y1 (.cells #[.bool false, .bool false, .bool false, .bool false, .bool false, .bool false, .bool false, .bool false, .bool false, .bool false, .bool false, .bool false, .bool false, .bool false] 83)
    have y2 := y2 (.cells #[.bool false, .bool false, .bool false, .bool false, .bool false, .bool false, .bool false, .bool false, .bool false, .bool false, .bool false, .bool false, .bool false, .bool false] 83)
    have y3 := y3 (.cells #[.bool false, .bool false, .bool false, .bool false, .bool false, .bool false, .bool false, .bool false, .bool false, .bool false, .bool false, .bool false, .bool false, .bool false] 83)
    obtain ⟨bw, hbw⟩ : ∃ x, x = w1.heap.size := ⟨_, rfl⟩
    rw [← hbw] at hW hlt1 ⊢
    clear hbw
    generalize w1.alloc (.cells #[.bool false, .bool false, .bool false, .bool false, .bool false, .bool false, .bool false, .bool false, .bool false, .bool false, .bool false, .bool false, .bool false, .bool false] 83) = wb at *
    have hfar : ∀ w', Fr [bw] wb w' → Kp w w' := fun w' h => kp_step2 hkb h hlt1
    have Hfar := Lib.hid hfar; clear hfar
    go_loopw [22] (fun i wr => ∃ k : Nat, k ≤ 2 ∧ i = .int .i64 k ∧ Fr [bw] wb wr ∧ WalkAt wr bw (if k = 0 then S0 else if k = 1 then foldSet S0 0 b0 else foldSet (foldSet S0 0 b0) 3 b1)) (fun i _ => 2 - (intOf i).toNat)
    case atStart => exact ⟨0, by omega, rfl, Fr.refl _ _, hW⟩
    case round =>
      clear hW
      obtain ⟨k, hk, rfl, hF, hW⟩ := hrel
      rcases (show k = 0 ∨ k = 1 ∨ k = 2 by omega) with rfl | rfl | rfl
      · rw [if_pos rfl] at hW
        have hI := Kp.is (Hfar.out _ hF) h0
        have hlen : b0.length = n0 := h0.1
        have hnn : n0 ≤ 9223372036854775807 := h0.2.1
        have Hlen := Lib.hid hlen; clear hlen
        have hW0 : WalkAt wr bw (foldSet S0 0 (b0.take 0)) := hW
        clear hW
        go_wp2_with fail
        obtain ⟨wo, rfl⟩ : ∃ wo : World, wo = wr := ⟨_, rfl⟩
        go_loopw [28] (fun i wr => ∃ j : Nat, j ≤ n0 ∧ i = .int .i64 j ∧ Fr [bw] wb wr ∧ WalkAt wr bw (foldSet S0 0 (b0.take j))) (fun i _ => n0 - (intOf i).toNat)
        case atStart => exact ⟨0, by omega, rfl, hF, hW0⟩
        case round =>
          clear hW0 hF hI
          obtain ⟨j, hj, rfl, hF, hW⟩ := hrel
          have hI := Kp.is (Hfar.out _ hF) h0
          by_cases hjn : j < n0
          · obtain ⟨tb, toff, rfl, _, hcc⟩ := hI.at j hjn
            have hck := hcc j hjn
            have hjl : j < b0.length := by rw [Hlen.out]; exact hjn
            have hsucc := foldSet_succ S0 0 b0 j hjl
            have hval := Hb0.out j hjl
            clear hcc
            generalize b0[j]'hjl = t at hck hsucc hval
            have Hsucc := Lib.hid hsucc; clear hsucc
            rcases hval with rfl | rfl
            · have c := (hW 1 (by omega)).1
              have z := (hW 1 (by omega)).2
              have hW2 := hW.set 1 (by omega)
              have hF2 := hF.trans (Fr.set wr ⟨bw, 1, none⟩ (.bool true))
              go_wp2_with fail
              go_roundw
              case rel => exact ⟨j + 1, by omega, by go_num, hF2, by rw [Hsucc.out]; exact hW2⟩
              case measure => simp [intOf]; omega
            · have c := (hW 2 (by omega)).1
              have z := (hW 2 (by omega)).2
              have hW2 := hW.set 2 (by omega)
              have hF2 := hF.trans (Fr.set wr ⟨bw, 2, none⟩ (.bool true))
              go_wp2_with fail
              go_roundw
              case rel => exact ⟨j + 1, by omega, by go_num, hF2, by rw [Hsucc.out]; exact hW2⟩
              case measure => simp [intOf]; omega
          · obtain rfl : n0 = j := by omega
            rw [List.take_of_length_le (by rw [Hlen.out]; exact Nat.le_refl _)] at hW
            go_wp2_with fail
            go_roundw
            case rel => exact ⟨1, by omega, rfl, hF, hW⟩
            case measure => simp [intOf]
      · rw [if_neg (by decide), if_pos rfl] at hW
        have hI := Kp.is (Hfar.out _ hF) h1
        have hlen : b1.length = n1 := h1.1
        have hnn : n1 ≤ 9223372036854775807 := h1.2.1
        have Hlen := Lib.hid hlen; clear hlen
        have hW0 : WalkAt wr bw (foldSet (foldSet S0 0 b0) 3 (b1.take 0)) := hW
        clear hW
        go_wp2_with fail
        obtain ⟨wo, rfl⟩ : ∃ wo : World, wo = wr := ⟨_, rfl⟩
        go_loopw [28] (fun i wr => ∃ j : Nat, j ≤ n1 ∧ i = .int .i64 j ∧ Fr [bw] wb wr ∧ WalkAt wr bw (foldSet (foldSet S0 0 b0) 3 (b1.take j))) (fun i _ => n1 - (intOf i).toNat)
        case atStart => exact ⟨0, by omega, rfl, hF, hW0⟩
        case round =>
          clear hW0 hF hI
          obtain ⟨j, hj, rfl, hF, hW⟩ := hrel
          have hI := Kp.is (Hfar.out _ hF) h1
          by_cases hjn : j < n1
          · obtain ⟨tb, toff, rfl, _, hcc⟩ := hI.at j hjn
            have hck := hcc j hjn
            have hjl : j < b1.length := by rw [Hlen.out]; exact hjn
            have hsucc := foldSet_succ (foldSet S0 0 b0) 3 b1 j hjl
            have hval := Hb1.out j hjl
            clear hcc
            generalize b1[j]'hjl = t at hck hsucc hval
            have Hsucc := Lib.hid hsucc; clear hsucc
            rcases hval with rfl | rfl
            · have c := (hW 4 (by omega)).1
              have z := (hW 4 (by omega)).2
              have hW2 := hW.set 4 (by omega)
              have hF2 := hF.trans (Fr.set wr ⟨bw, 4, none⟩ (.bool true))
              go_wp2_with fail
              go_roundw
              case rel => exact ⟨j + 1, by omega, by go_num, hF2, by rw [Hsucc.out]; exact hW2⟩
              case measure => simp [intOf]; omega
            · have c := (hW 5 (by omega)).1
              have z := (hW 5 (by omega)).2
              have hW2 := hW.set 5 (by omega)
              have hF2 := hF.trans (Fr.set wr ⟨bw, 5, none⟩ (.bool true))
              go_wp2_with fail
              go_roundw
              case rel => exact ⟨j + 1, by omega, by go_num, hF2, by rw [Hsucc.out]; exact hW2⟩
              case measure => simp [intOf]; omega
          · obtain rfl : n1 = j := by omega
            rw [List.take_of_length_le (by rw [Hlen.out]; exact Nat.le_refl _)] at hW
            go_wp2_with fail
            go_roundw
            case rel => exact ⟨2, by omega, rfl, hF, hW⟩
            case measure => simp [intOf]
      · rw [if_neg (by decide), if_neg (by decide)] at hW
        rw [← begunL_eq] at hW
        rw [show ((2 : Nat) : Int) = 2 from rfl]
        obtain ⟨wo, rfl⟩ : ∃ wo : World, wo = wr := ⟨_, rfl⟩
        have y3o := hF.cell y3 (by simp; omega)
        go_wp2_with fail
        go_loopw [44] (fun i wr => ∃ (k : Nat) (S : Nat → Bool), k ≤ nl ∧ i = .int .i64 k ∧ Fr [bw] wb wr ∧ WalkAt wr bw S ∧ runLs (begunL b0 b1) ls = runLs S (ls.drop k)) (fun i _ => nl - (intOf i).toNat)
        case atStart => exact ⟨0, begunL b0 b1, by omega, rfl, hF, hW, rfl⟩
        case round =>
          clear hW hF y3o
          obtain ⟨k, S, hk, rfl, hF, hW, hrun⟩ := hrel
          have Hrun := Lib.hid hrun; clear hrun
          by_cases hlt : k < nl
          · have hkl : k < ls.length := by rw [Hll.out]; exact hlt
            have hkr := Hfar.out _ hF
            obtain ⟨b, off, tp, tn, tc, rfl, hc1, hc2, hI, htn⟩ := hl.2.2 k hkl
            have hc1 := Kp.cell hkr hc1
            have hc2 := Kp.cell hkr hc2
            obtain ⟨hfm, htpos, htm⟩ := Hmem.out k hkl
            have hat := runLs_at S ls k hkl
            obtain ⟨f, ts, hft⟩ : ∃ f ts, ls[k] = (f, ts) := ⟨_, _, rfl⟩
            rw [hft] at hc1 hI hat hfm htpos htm
            have hI : Is w tp tn ts := hI
            have hc1 : wr.cell? ⟨b, off + k * 2, none⟩ = some (iv f) := hc1
            have hfm : f = 0 ∨ f = 1 := hfm
            have Htm := Lib.hid htm; clear htm
            have htl : ts.length = tn := hI.1
            have Htl := Lib.hid htl; clear htl
            have htpos : 0 < tn := by rw [← Htl.out]; exact htpos
            have Hat := Lib.hid hat; clear hat hft
            have HI := Lib.hid hI; clear hI
            have hWq := fun o => Kp.walk (Kp.new wr o) hW
            have HWq := Lib.hid hWq; clear hWq
            have hlt2 : bw < wr.heap.size := World.block_lt_of_cell? wr _ (hW 0 (by omega)).1
            go_wp2_with fail
            have hkn := Kp.new wr (.cells #[iv f, .slice tp tn tc] 45)
            have hd0 : (wr.alloc (.cells #[iv f, .slice tp tn tc] 45)).cell? ⟨wr.heap.size, 0, none⟩ = some (iv f) := by rw [World.cell?_alloc_at _ _ _ _ rfl]; rfl
            have hd1 : (wr.alloc (.cells #[iv f, .slice tp tn tc] 45)).cell? ⟨wr.heap.size, 1, none⟩ = some (.slice tp tn tc) := by rw [World.cell?_alloc_at _ _ _ _ rfl]; rfl
            have hWq := HWq.out (.cells #[iv f, .slice tp tn tc] 45)
            have hFq := hF.trans ((Fr.of_kp hkn).mono (Y := [bw]) (by simp))
            obtain ⟨bn, hbn⟩ : ∃ x, x = wr.heap.size := ⟨_, rfl⟩
            rw [← hbn] at hd0 hd1 hlt2 ⊢
            clear hbn HWq
            generalize wr.alloc (.cells #[iv f, .slice tp tn tc] 45) = wq at *
            go_loopw [51] (fun i wv => ∃ (j : Nat) (S' : Nat → Bool), j ≤ tn ∧ i = .int .i64 j ∧ Fr [bw] wq wv ∧ WalkAt wv bw S' ∧ runToks S f ts = runToks S' f (ts.drop j)) (fun i _ => tn - (intOf i).toNat)
            case atStart => exact ⟨0, S, by omega, rfl, Fr.refl _ _, hWq, rfl⟩
            case round =>
              clear hWq
              obtain ⟨j, S', hj, rfl, hF', hW', hrt⟩ := hrel
              have Hrt := Lib.hid hrt; clear hrt
              have hFa := hFq.trans hF'
              have hka := Hfar.out _ hFa
              by_cases hjt : j < tn
              · have hjl : j < ts.length := by rw [Htl.out]; exact hjt
                have hE2 := Kp.errs hka hE
                have hd0 := hF'.cell hd0 (by simp; omega)
                have hd1 := hF'.cell hd1 (by simp; omega)
                obtain ⟨tb, toff, rfl, _, hcc⟩ := (Kp.is hka HI.out).at j hjt
                have hck := hcc j hjt
                have hat2 := runToks_at S' f ts j hjl
                obtain ⟨ht1, ht7⟩ := Htm.out j hjl
                obtain ⟨L, hL⟩ : ∃ L, L = (j + 1 == ts.length) := ⟨_, rfl⟩
                rw [← hL] at hat2
                have hb : ((j : Int) == (tn : Int) - 1) = L := by
                  rw [hL, Htl.out, Bool.eq_iff_iff]; simp; omega
                clear hcc hL
                generalize ts[j]'hjl = t at hck hat2 ht1 ht7
                have Hat2 := Lib.hid hat2; clear hat2
                go_wp2_with fail
                (with_reducible refine (takes_any _ E hE2 bw S' hW' f t hfm ht1 ht7 L).mono ?_)
                rintro e w5 ⟨rfl, hF5, hW5⟩
                by_cases hc : offL S' f t L = 0
                · have hW6 := hW5 hc
                  have hrt2 : runToks S f ts = runToks (tookL S' f t) f (ts.drop (j + 1)) := by rw [Hrt.out, Hat2.out, if_pos hc]
                  rw [show errV E (offL S' f t L) = .nilIface by rw [hc]; rfl]
                  have Hrt2 := Lib.hid hrt2
                  clear hW5 hrt2 hc
                  go_wp2_with fail
                  go_roundw
                  case rel => exact ⟨j + 1, tookL S' f t, by omega, by go_num, hF'.trans hF5, hW6, Hrt2.out⟩
                  case measure => simp [intOf]; omega
                · have hk5 := Hfar.out _ (hFa.trans hF5)
                  have HF2 := Lib.hid (show checkL b0 b1 ls = offL S' f t L by
                    have h2 : runToks S f ts = (offL S' f t L, S') := by rw [Hrt.out, Hat2.out, if_neg hc]
                    have h3 : runLs (begunL b0 b1) ls = (offL S' f t L, S') := by rw [Hrun.out, Hat.out, h2]; exact if_neg hc
                    rw [HF.out, h3]; exact if_neg hc)
                  rw [show errV E (offL S' f t L) = .iface 197 (.pointer (some (E (offL S' f t L)))) from if_neg hc]
                  have Hc := Lib.hid hc
                  clear hW5 hc
                  go_wp2_with fail
                  go_ret
                  exact ⟨by rw [HF2.out]; unfold errV; rw [if_neg Hc.out]; rfl, hk5⟩
              · obtain rfl : j = tn := by omega
                have hrt2 : runLs (begunL b0 b1) ls = runLs S' (ls.drop (k + 1)) := by
                  have h2 : runToks S f ts = (0, S') := by rw [Hrt.out, List.drop_of_length_le (by rw [Htl.out]; exact Nat.le_refl _)]; rfl
                  rw [Hrun.out, Hat.out, h2]; rfl
                have Hrt2 := Lib.hid hrt2; clear hrt2
                go_wp2_with fail
                go_roundw
                case rel => exact ⟨k + 1, S', by omega, by go_num, hFa, hW', Hrt2.out⟩
                case measure => simp [intOf]; omega
          · obtain rfl : k = ls.length := by rw [Hll.out]; omega
            obtain rfl : nl = ls.length := Hll.out.symm
            have hkr := Hfar.out _ hF
            have y3 := hF.cell y3 (by simp; omega)
            have HF2 := Lib.hid (show checkL b0 b1 ls = endL S ls by
              have h3 : runLs (begunL b0 b1) ls = (0, S) := by rw [Hrun.out, List.drop_of_length_le (Nat.le_refl _)]; rfl
              rw [HF.out, h3]; rfl)
            have hE2 := Kp.errs hkr hE
            obtain ⟨b, off, tp, tn, tc, rfl, hc1, hc2, hI, htn⟩ := hl.2.2 0 hl0
            have hc1 := Kp.cell hkr hc1
            rw [Nat.zero_mul, Nat.add_zero] at hc1
            have hone : oneWay ls = (ls.length == 1 && ls[0].1 == 0) := by
              unfold oneWay
              rw [List.getElem?_eq_getElem hl0]; rfl
            generalize ls[0].1 = g at hc1 hone
            have Hone := Lib.hid hone; clear hone
            clear hI htn hc2
            go_upto_region 24 with fail
            go_cut [13] (fun v wc => v = .bool (oneWay ls) ∧ wr = wc)
            case first =>
              by_cases hl1 : ls.length = 1
              · have hb : ((ls.length : Int) == 1) = true := by simp; omega
                have HO := Lib.hid (show oneWay ls = (g == 0) by rw [Hone.out, hl1]; rfl)
                clear hl1
                go_wp2_with fail
                go_meet
                case rel => exact ⟨by rw [HO.out], rfl⟩
              · have hb : ((ls.length : Int) == 1) = false := by simp; omega
                have HO := Lib.hid (show oneWay ls = false by rw [Hone.out, beq_false_of_ne hl1]; rfl)
                clear hl1
                go_wp2_with fail
                go_meet
                case rel => exact ⟨by rw [HO.out], rfl⟩
            case rest =>
              obtain ⟨rfl, rfl⟩ := hcut
              have e12 := hE2.2.2.2
              go_wp2_with fail
              (with_reducible refine (safe_any _ bw S 0 (by omega) hW).mono ?_)
              rintro e w6 ⟨rfl, rfl⟩
              cases hs0 : safeL S 0 with
              | false =>
                have HF3 := Lib.hid (show checkL b0 b1 ls = 12 by rw [HF2.out]; unfold endL; rw [hs0]; rfl)
                clear hs0
                go_wp2_with fail
                go_ret
                exact ⟨by rw [HF3.out]; rfl, hkr⟩
              | true =>
                cases how : oneWay ls with
                | true =>
                  have HF3 := Lib.hid (show checkL b0 b1 ls = 0 by rw [HF2.out]; unfold endL; rw [hs0, how]; rfl)
                  clear hs0 how
                  go_wp2_with fail
                  go_ret
                  exact ⟨by rw [HF3.out]; rfl, hkr⟩
                | false =>
                  have HF3 := Lib.hid (show checkL b0 b1 ls = if safeL S 1 then 0 else 12 by rw [HF2.out]; unfold endL; rw [hs0, how]; cases safeL S 1 <;> rfl)
                  clear hs0 how
                  go_wp2_with fail
                  (with_reducible refine (safe_any _ bw S 1 (by omega) hW).mono ?_)
                  rintro e w7 ⟨rfl, rfl⟩
                  cases hs1 : safeL S 1 with
                  | false =>
                    have HF4 := Lib.hid (show checkL b0 b1 ls = 12 by rw [HF3.out, hs1]; rfl)
                    clear hs1
                    go_wp2_with fail
                    go_ret
                    exact ⟨by rw [HF4.out]; rfl, hkr⟩
                  | true =>
                    have HF4 := Lib.hid (show checkL b0 b1 ls = 0 by rw [HF3.out, hs1]; rfl)
                    clear hs1
                    go_wp2_with fail
                    go_ret
                    exact ⟨by rw [HF4.out]; rfl, hkr⟩
end Go.Proofs.YtbdphdgomcabmaaGreatDoor

namespace Go.Proofs.YtbdphdgomcabmaaGreatDoor
open Go.RowKit

/-- What is changed is no older than the start. -/
theorem kp_step' {w0 w w' : World} {X : List Nat} (hk : Kp w0 w) (k : Fr X w w') (h : ∀ j ∈ X, w0.heap.size ≤ j) : Kp w0 w' := ((Fr.of_kp hk).step k (fun j hj => .inr (h j hj))).kp
theorem kp_own {w wr wr1 w2 : World} {B sz : Nat} (h : Kp w wr) (k : Kp wr wr1) {e : TypeId} {ao ao2 : Option Addr} {n cap m N cap2 : Nat} {xs zs : List Value} (hB : w.heap.size ≤ B) (hO : Own wr B e sz ao n cap xs) (a : Appd wr1 w2 B e sz ao cap m N zs ao2 cap2) : Kp w w2 :=
  kp_step' (Kp.trans h k) a.fr (fun j hj => Nat.le_trans hB (hO.lt j (mem_blkL.1 hj)).1)

set_option maxHeartbeats 2000000 in
theorem ints_yes (w : World) (ao bo : Option Addr) (n m c d : Nat) (xs : List Int) (hx : Is w ao n xs) (hy : Is w bo m xs) :
    Calls Tryz.prog 30 #[.slice ao n c, .slice bo m d] w fun e w' => e = .returned (.bool true) ∧ ∃ q, w' = w.drewN q := by
  have hn := hx.2.1
  unfold maxLen at hn
  have Hx := Lib.hid hx.1
  have hnm : n = m := by have := hx.1; have := hy.1; omega
  subst hnm
  go_enter Tryz.func30, Tryz.ntmps30
  go_wp2_with fail
  go_loopw [5] (fun i wr => ∃ k q : Nat, k ≤ n ∧ i = .int .i64 k ∧ wr = w.drewN q) (fun i _ => n - (intOf i).toNat)
  case atStart => exact ⟨0, 0, by omega, rfl, rfl⟩
  case round =>
    obtain ⟨k, q, hk, rfl, rfl⟩ := hrel
    by_cases hlt : k < n
    · obtain ⟨b, off, rfl, _, hc⟩ := hx.at k hlt
      obtain ⟨b', off', rfl, _, hc'⟩ := hy.at k hlt
      have c1 := hc k hlt
      have c2 := hc' k hlt
      have lx : k < xs.length := by rw [Hx.out]; exact hlt
      clear hc hc'
      generalize xs[k]'lx = x at c1 c2
      have hne : (x != x) = false := by simp
      go_wp2_with fail
      go_quiet (fail)
      go_wp2_with fail
      go_roundw
      case rel => exact ⟨k + 1, _, by omega, by go_num, by first | rfl | exact World.drewN_drewN _ _ _⟩
      case measure => simp [intOf]; omega
    · go_wp2_with fail
      go_ret
      exact ⟨rfl, q, rfl⟩

/-- A pattern that lies there. -/
structure PatI (w : World) (a0 a1 al : Option Addr) (n0 n1 nl : Nat) (b0 b1 : List Int) (ls : List Ln) : Prop where
  i0 : Is w a0 n0 b0
  i1 : Is w a1 n1 b1
  il : Lns w al nl ls
theorem PatI.kp {w w' : World} {a0 a1 al : Option Addr} {n0 n1 nl : Nat} {b0 b1 : List Int} {ls : List Ln} (h : PatI w a0 a1 al n0 n1 nl b0 b1 ls) (k : Kp w w') : PatI w' a0 a1 al n0 n1 nl b0 b1 ls := ⟨k.is h.i0, k.is h.i1, k.lns h.il⟩
theorem PatI.none (w : World) : PatI w none none none 0 0 0 [] [] [] := ⟨Is.zero _ _, Is.zero _ _, ⟨rfl, Nat.zero_le _, fun j hj => absurd hj (by simp)⟩⟩
abbrev patV (nm : ByteArray) (a0 a1 al : Option Addr) (n0 c0 n1 c1 nl cl : Nat) : Value := .agg #[.string nm, .slice a0 n0 c0, .slice a1 n1 c1, .slice al nl cl]

/-- A block's four cells. -/
theorem new4 (w : World) (a b c d : Value) (t : TypeId) : ∀ j v, [a, b, c, d][j]? = some v → (w.alloc (.cells #[a, b, c, d] t)).cell? ⟨w.heap.size, j, none⟩ = some v := fun j v hv => by
  rw [World.cell?_alloc_at _ _ _ _ rfl]
  simpa using hv

theorem ints_kp (w : World) (ao bo : Option Addr) (n m c d : Nat) (xs : List Int) (hx : Is w ao n xs) (hy : Is w bo m xs) :
    Calls Tryz.prog 30 #[.slice ao n c, .slice bo m d] w fun e w' => e = .returned (.bool true) ∧ Kp w w' :=
  (ints_yes w ao bo n m c d xs hx hy).mono (by rintro e w' ⟨rfl, q, rfl⟩; exact ⟨rfl, Kp.of_drewN _ _⟩)

set_option maxRecDepth 100000 in
set_option maxHeartbeats 4000000 in
theorem same_yes (w : World) (nm : ByteArray) (a0 a1 al e0 e1 el : Option Addr) (n0 c0 n1 c1 nl cl m0 f0 m1 f1 ml fl : Nat) (b0 b1 : List Int) (ls : List Ln)
    (hP : PatI w a0 a1 al n0 n1 nl b0 b1 ls) (hQ : PatI w e0 e1 el m0 m1 ml b0 b1 ls) :
    Calls Tryz.prog 14 #[patV nm a0 a1 al n0 c0 n1 c1 nl cl, patV nm e0 e1 el m0 f0 m1 f1 ml fl] w fun e w' => e = .returned (.bool true) ∧ Kp w w' := by
  obtain ⟨h0, h1, hl⟩ := hP
  obtain ⟨g0, g1, gl⟩ := hQ
  have hnl := hl.2.1
  have Hll := Lib.hid hl.1
  have hml : ml = nl := by have := hl.1; have := gl.1; omega
  subst hml
  have hA := fun j v h => Kp.cell (Kp.new (w.alloc (.cells #[.string nm, .slice a0 n0 c0, .slice a1 n1 c1, .slice al ml cl] 26)) (.cells #[.string nm, .slice e0 m0 f0, .slice e1 m1 f1, .slice el ml fl] 26)) (new4 w (.string nm) (.slice a0 n0 c0) (.slice a1 n1 c1) (.slice al ml cl) 26 j v h)
  have hB := new4 (w.alloc (.cells #[.string nm, .slice a0 n0 c0, .slice a1 n1 c1, .slice al ml cl] 26)) (.string nm) (.slice e0 m0 f0) (.slice e1 m1 f1) (.slice el ml fl) 26
  have hkw := Kp.trans (Kp.new w (.cells #[.string nm, .slice a0 n0 c0, .slice a1 n1 c1, .slice al ml cl] 26)) (Kp.new (w.alloc (.cells #[.string nm, .slice a0 n0 c0, .slice a1 n1 c1, .slice al ml cl] 26)) (.cells #[.string nm, .slice e0 m0 f0, .slice e1 m1 f1, .slice el ml fl] 26))
  have A0 := hA 0 _ rfl
  have A1 := hA 1 _ rfl
  have A2 := hA 2 _ rfl
  have A3 := hA 3 _ rfl
  have B0 := hB 0 _ rfl
  have B1 := hB 1 _ rfl
  have B2 := hB 2 _ rfl
  have B3 := hB 3 _ rfl
  rw [World.size_alloc] at B0 B1 B2 B3
  clear hA hB
  go_enter Tryz.func14, Tryz.ntmps14
  go_upto_region 1 with fail
  generalize (w.alloc (.cells #[.string nm, .slice a0 n0 c0, .slice a1 n1 c1, .slice al ml cl] 26)).alloc (.cells #[.string nm, .slice e0 m0 f0, .slice e1 m1 f1, .slice el ml fl] 26) = wb at *
  go_wp2_with fail
  (with_reducible refine (ints_kp wb a0 e0 n0 m0 c0 f0 b0 (Kp.is hkw h0) (Kp.is hkw g0)).mono ?_)
  rintro e w1 ⟨rfl, hk1⟩
  replace A1 := Kp.cell hk1 A1
  replace A2 := Kp.cell hk1 A2
  replace A3 := Kp.cell hk1 A3
  replace B1 := Kp.cell hk1 B1
  replace B2 := Kp.cell hk1 B2
  replace B3 := Kp.cell hk1 B3
  have hkw := Kp.trans hkw hk1
  go_wp2_with fail
  (with_reducible refine (ints_kp w1 a1 e1 n1 m1 c1 f1 b1 (Kp.is hkw h1) (Kp.is hkw g1)).mono ?_)
  rintro e w2 ⟨rfl, hk2⟩
  replace A3 := Kp.cell hk2 A3
  replace B3 := Kp.cell hk2 B3
  have hkw := Kp.trans hkw hk2
  have hb : ((ml : Int) != (ml : Int)) = false := by simp
  clear A0 A1 A2 B0 B1 B2 hk1 hk2
  go_wp2_with fail
  go_loopw [5] (fun i wr => ∃ k : Nat, k ≤ ml ∧ i = .int .i64 k ∧ Kp w2 wr) (fun i _ => ml - (intOf i).toNat)
  case atStart => exact ⟨0, by omega, rfl, Kp.refl _⟩
  case round =>
    obtain ⟨k, hk, rfl, hk3⟩ := hrel
    rename World => wr
    replace A3 := Kp.cell hk3 A3
    replace B3 := Kp.cell hk3 B3
    have hkr := Kp.trans hkw hk3
    by_cases hlt : k < ml
    · have hkl : k < ls.length := by rw [Hll.out]; exact hlt
      obtain ⟨b, off, tp, tn, tc, rfl, hc1, hc2, hI, _⟩ := hl.2.2 k hkl
      obtain ⟨b', off', tp', tn', tc', rfl, hd1, hd2, hJ, _⟩ := gl.2.2 k hkl
      replace hc1 := Kp.cell hkr hc1
      replace hc2 := Kp.cell hkr hc2
      replace hd1 := Kp.cell hkr hd1
      replace hd2 := Kp.cell hkr hd2
      have Hcall := Lib.hid (fun q => ints_yes (wr.drewN q) tp tp' tn tn' tc tc' _ (Kp.is (Kp.trans hkr (Kp.of_drewN _ _)) hI) (Kp.is (Kp.trans hkr (Kp.of_drewN _ _)) hJ))
      clear hI hJ
      generalize ls[k]'hkl = u at *
      generalize u.1 = f at *
      have hff : (f != f) = false := by simp
      go_wp2_with fail
      go_quiet ((go_at_call 30; exact Calls.quiet_of (Hcall.out _)))
      go_wp2_with fail
      go_roundw
      case rel => exact ⟨k + 1, by omega, by go_num, Kp.trans hk3 (Kp.of_drewN _ _)⟩
      case measure => simp [intOf]; omega
    · go_wp2_with fail
      go_ret
      exact ⟨rfl, hkr⟩
end Go.Proofs.YtbdphdgomcabmaaGreatDoor

namespace Go.Proofs.YtbdphdgomcabmaaGreatDoor
open Go.RowKit

/-- Not more than is looked at. -/
structure ShortP (nm : ByteArray) (n0 n1 nl : Nat) (ls : List Ln) : Prop where
  nm : nm.size ≤ 8000
  n0 : n0 ≤ 2000
  n1 : n1 ≤ 2000
  nl : nl ≤ 2000
  ts : ∀ l ∈ ls, l.2.length ≤ 2000
/-- Not more than is looked at, the name as long as it may be. -/
structure ShortM (nm : ByteArray) (n0 n1 nl : Nat) (ls : List Ln) : Prop where
  nm : nm.size ≤ 140737488351232
  n0 : n0 ≤ 2000
  n1 : n1 ≤ 2000
  nl : nl ≤ 2000
  ts : ∀ l ∈ ls, l.2.length ≤ 2000
theorem ShortP.wide {nm : ByteArray} {n0 n1 nl : Nat} {ls : List Ln} (h : ShortP nm n0 n1 nl ls) : ShortM nm n0 n1 nl ls := ⟨by have := h.nm; omega, h.n0, h.n1, h.nl, h.ts⟩
end Go.Proofs.YtbdphdgomcabmaaGreatDoor

namespace Go.Proofs.YtbdphdgomcabmaaGreatDoor
open Go.ChangeShapes Go.WideShapes Go.RowKit Go.Deep

theorem weights_of_mem {H : Type} {P : Program} {e : TypeId} {x : Nat} : ∀ {l : List (DataW H)} {d : DataW H}, d ∈ l → x ∈ d.weights P e → x ∈ DataW.weightsAll P e l
  | d0 :: r, d, hd, hx => by
    simp only [DataW.weightsAll, List.mem_append]
    rcases List.mem_cons.1 hd with rfl | hd
    · exact .inl hx
    · exact .inr (weights_of_mem hd hx)
/-- What the row says of each argument's size. -/
theorem weights_at {H : Type} {P : Program} {gs : List (DataW H)} {t : TypeId} {d : DataW H} : ∀ {ts : List TypeId} {ds : List (DataW H)} {j : Nat}, (DataW.weightsEach P (ts ++ []) (ds ++ gs)).all (· ≤ reachBytes) = true → ts[j]? = some t → ds[j]? = some d → ∀ k ∈ d.weights P t, k ≤ 140737488351232
  | t0 :: ts, d0 :: ds, 0, h, ht, hd => by
    obtain rfl : t0 = t := by simpa using ht
    obtain rfl : d0 = d := by simpa using hd
    intro k hk
    simp only [List.cons_append, DataW.weightsEach, List.all_append, Bool.and_eq_true] at h
    have := of_decide_eq_true (List.all_eq_true.1 h.1 k hk)
    exact this
  | t0 :: ts, d0 :: ds, j + 1, h, ht, hd => by
    simp only [List.cons_append, DataW.weightsEach, List.all_append, Bool.and_eq_true] at h
    exact weights_at h.2 (by simpa using ht) (by simpa using hd)
  | [], _, _, _, ht, _ => by simp at ht
  | _ :: _, [], _, _, _, hd => by simp at hd

/-- A slice of numbers in a cell. -/
theorem is_of_cells {H : Type} {enc : TypeId × Value → H} {W : World} {v : Value} {fuel : Nat} {x : DataW H × List MemPlace}
    (h : DataW.trod enc Tryz.prog W 0 (fun _ => true) true fuel 22 [v] = some x) (hw : ∀ k ∈ x.1.weights Tryz.prog 22, k ≤ 140737488351232) : ∃ xo xn xc xs, v = .slice xo xn xc ∧ Is W xo xn xs ∧ xn ≤ 140737488351232 := by
  rcases open_ints Tryz.underlying22 Tryz.underlying3 (by kernel_rfl) h with ⟨hcs, _⟩ | ⟨a, len, cap, zs, hcs, _, hl, hm, hz, rfl, hcell, _⟩
  · obtain rfl : v = .slice none 0 0 := by simpa using hcs
    exact ⟨none, 0, 0, [], rfl, Is.zero _ _, by omega⟩
  · obtain rfl : v = .slice (some a) len cap := by simpa using hcs
    simp only [if_true] at hz
    refine ⟨_, _, _, zs.take len, rfl, ⟨by simp; omega, Nat.le_trans hl hm, fun j u hu => ?_⟩, ?_⟩
    · have hj : j < len := by
        have := (List.getElem?_eq_some_iff.1 hu).1
        simp at this; omega
      have hc := hcell j (by omega)
      obtain ⟨b, off, spot⟩ := a
      have hspot : spot = none := by simpa [Addr.add] using World.cell?_spot (hcell 0 (by omega))
      subst hspot
      rw [Addr.add_lit] at hc
      refine ⟨b, off, rfl, ?_⟩
      rw [hc]
      have hzj : zs[j]? = some zs[j] := List.getElem?_eq_getElem (by omega)
      simp [List.getElem?_map, hj, hzj, List.getD_eq_getElem?_getD] at hu ⊢
      exact hu
    · simp only [DataW.weights, Tryz.underlying22, List.mem_cons] at hw
      have := hw _ (.inl rfl)
      simp only [lits, List.length_map, List.length_take, List.length_drop, show Tryz.prog.bytesOf 3 = 8 by kernel_rfl] at this
      omega

/-- A slice of lines in a cell. -/
theorem lns_of_cells {H : Type} {enc : TypeId × Value → H} {W : World} {v : Value} {fuel : Nat} {x : DataW H × List MemPlace}
    (h : DataW.trod enc Tryz.prog W 0 (fun _ => true) true fuel 24 [v] = some x) (hw : ∀ k ∈ x.1.weights Tryz.prog 24, k ≤ 140737488351232) : ∃ a0 len cap ls, v = .slice a0 len cap ∧ Lns W a0 len ls := by
  rcases open_slice_pairs Tryz.underlying24 Tryz.underlying45 (by kernel_rfl) rfl rfl (by kernel_rfl) (by kernel_rfl) h with ⟨hcs, _⟩ | ⟨a, len, cap, m, n, V0, V1, D0, D1, P0, P1, hcs, _, hl, hm, hme, hx, hi⟩
  · obtain rfl : v = .slice none 0 0 := by simpa using hcs
    exact ⟨_, _, _, [], rfl, rfl, Nat.zero_le _, fun j hj => absurd hj (by simp)⟩
  · obtain rfl : v = .slice (some a) len cap := by simpa using hcs
    have hml : len ≤ m := by rw [hme]; simp; exact hl
    obtain rfl : x = _ := hx
    simp only [DataW.weights, Tryz.underlying24, List.mem_cons, List.mem_append] at hw
    have hlen : len ≤ 140737488351232 := by
      have := hw _ (.inl rfl)
      simp only [List.length_map, List.length_range, show Tryz.prog.bytesOf 45 = 32 by kernel_rfl] at this
      omega
    have hall : ∀ j, j < len → ∃ q : Ln, ∃ b off xo xn xc, some a = some ⟨b, off, none⟩ ∧ W.cell? ⟨b, off + j * 2, none⟩ = some (iv q.1) ∧ W.cell? ⟨b, off + j * 2 + 1, none⟩ = some (.slice xo xn xc) ∧ Is W xo xn q.2 ∧ xn ≤ 140737488351232 := by
      intro j hj
      obtain ⟨h1, h2, h3, h4⟩ := hi j (by omega)
      obtain ⟨b, off, spot⟩ := a
      have hspot : spot = none := by
        simpa [Addr.add] using World.cell?_spot (hi 0 (by omega)).1
      subst hspot
      rw [Addr.add_lit] at h1 h2
      obtain ⟨xo, xn, xc, xs, hv1, hB, hxn⟩ := is_of_cells h4 (fun k hk => hw k (.inr (.inl (weights_of_mem (d := .agg [D0 j, D1 j]) (List.mem_map.2 ⟨j, List.mem_range.2 hj, rfl⟩) (by
        simp only [DataW.weights, Tryz.underlying45, List.map_cons, List.map_nil, DataW.weightsEach, List.mem_append]
        exact .inr (.inl hk))))))
      obtain ⟨z, hz, _⟩ := DataW.trod_int Tryz.underlying3 h3
      exact ⟨(z, xs), b, off, xo, xn, xc, rfl, by rw [h1]; simpa using hz, by rw [← hv1, ← h2, Nat.add_assoc], hB, hxn⟩
    obtain ⟨f, hf⟩ := choose_lt hall
    refine ⟨_, _, _, (List.range len).map f, rfl, by simp, hlen, fun j hj => ?_⟩
    have hj' : j < len := by simpa using hj
    simpa using hf j hj'

set_option maxRecDepth 100000 in
/-- A pattern among the arguments. -/
theorem pat_of_trod {H : Type} {enc : TypeId × Value → H} {W : World} {v : Value} {d : DataW H} {p : List MemPlace} {r : Reach} {base : Nat} (hv : Value.okWide Tryz.prog W r base 26 v)
    (h : DataW.Trod enc Tryz.prog W 0 (fun _ => true) true 26 v d p) (hw : ∀ k ∈ d.weights Tryz.prog 26, k ≤ 140737488351232) :
    ∃ nm a0 n0 c0 a1 n1 c1 al nl cl b0 b1 ls, v = .agg #[.string nm, .slice a0 n0 c0, .slice a1 n1 c1, .slice al nl cl] ∧ nm.size ≤ maxLen ∧ Is W a0 n0 b0 ∧ Is W a1 n1 b1 ∧ Lns W al nl ls ∧ n0 ≤ 140737488351232 ∧ n1 ≤ 140737488351232 := by
  obtain ⟨cs, hvc, hsz⟩ := okWide_struct (P := Tryz.prog) (w := W) (r := r) (base := base) (t := 26) (v := v) Tryz.underlying26 hv
  subst hvc
  have h26 : Tryz.prog.cellsOf 26 = 4 := by kernel_rfl
  rw [h26] at hsz
  obtain ⟨fuel, hf⟩ := h
  obtain ⟨l⟩ := cs
  simp at hsz
  obtain ⟨v0, v1, v2, v3, rfl⟩ : ∃ v0 v1 v2 v3, l = [v0, v1, v2, v3] := by
    match l, hsz with
    | [v0, v1, v2, v3], _ => exact ⟨_, _, _, _, rfl⟩
  simp only [Value.cells] at hf
  obtain ⟨xs, n, rfl, hx, _, hxl, hi⟩ := DataW.trod_struct Tryz.underlying26 hf
  obtain ⟨x0, x1, x2, rfl⟩ : ∃ x0 x1 x2, xs = [x0, x1, x2] := by
    match xs, hxl with
    | [x0, x1, x2], _ => exact ⟨_, _, _, rfl⟩
  have f0 := hi 0 { name := "Name", type := 9, offset := 0, embedded := false, tag := "", pkgPath := "", byteOffset := 0 } rfl
  have f1 := hi 1 { name := "Before", type := 23, offset := 1, embedded := false, tag := "", pkgPath := "", byteOffset := 16 } rfl
  have f2 := hi 2 { name := "Lines", type := 24, offset := 3, embedded := false, tag := "", pkgPath := "", byteOffset := 64 } rfl
  simp only [show Tryz.prog.cellsOf 9 = 1 by kernel_rfl, show Tryz.prog.cellsOf 23 = 2 by kernel_rfl, show Tryz.prog.cellsOf 24 = 1 by kernel_rfl, List.drop, List.take, List.getElem?_cons_zero, List.getElem?_cons_succ] at f0 f1 f2
  obtain rfl : d = _ := (Prod.mk.inj hx).1
  simp only [DataW.weights, Tryz.underlying26, List.map_cons, List.map_nil, DataW.weightsEach, List.mem_append] at hw
  obtain ⟨s, hs, _, hsm⟩ := DataW.trod_string Tryz.underlying9 f0
  obtain rfl : v0 = .string s := by simpa using hs
  obtain ⟨a0, n0, c0', ls, rfl, hls⟩ := lns_of_cells f2 (fun k hk => hw k (.inr (.inr (.inl hk))))
  obtain ⟨ys, m, rfl, hy, _, hyl, hj⟩ := DataW.trod_array Tryz.underlying23 f1
  obtain ⟨y0, y1, rfl⟩ : ∃ y0 y1, ys = [y0, y1] := by
    match ys, hyl with
    | [y0, y1], _ => exact ⟨_, _, rfl⟩
  have g0 := hj 0 (by decide)
  have g1 := hj 1 (by decide)
  simp only [show Tryz.prog.cellsOf 22 = 1 by kernel_rfl, List.drop, List.getElem?_cons_zero, List.getElem?_cons_succ, Nat.zero_mul, Nat.one_mul] at g0 g1
  obtain rfl : x1 = _ := hy
  simp only [DataW.weights, Tryz.underlying23, List.map_cons, List.map_nil, DataW.weightsAll, List.mem_append] at hw
  obtain ⟨p0, q0, r0, b0, rfl, hb0, hq0⟩ := is_of_cells g0 (fun k hk => hw k (.inr (.inl (.inl hk))))
  obtain ⟨p1, q1, r1, b1, rfl, hb1, hq1⟩ := is_of_cells g1 (fun k hk => hw k (.inr (.inl (.inr (.inl hk)))))
  exact ⟨s, p0, q0, r0, p1, q1, r1, a0, n0, c0', b0, b1, ls, rfl, hsm, hb0, hb1, hls, hq0, hq1⟩
end Go.Proofs.YtbdphdgomcabmaaGreatDoor

namespace Go.Proofs.YtbdphdgomcabmaaGreatDoor
open Go.ChangeShapes Go.WideShapes Go.RowKit

theorem trodAll_stays {H : Type} {enc : TypeId × Value → H} {P : Program} (hl : laidOutB P = true) {W W' : World} (hb : Kp W W') : ∀ {ts : List TypeId} {vs : List Value} {ds : List (DataW H)} {ps : List MemPlace},
    (∀ t ∈ ts, P.readableRec t = true ∧ t < P.types.size) → DataW.TrodAll enc P W 0 (fun _ => true) true ts vs ds ps → (∀ x ∈ ps, x.block < W.heap.size) →
    DataW.TrodAll enc P W' 0 (fun b => decide (b < W.heap.size)) true ts vs ds ps
  | [], [], [], _, _, h, _ => h
  | t :: ts, v :: vs, d :: ds, ps, ht, h, hlt => by
    obtain ⟨p, q, h1, h2, rfl⟩ := h
    have h3 := ht t (by simp)
    exact ⟨p, q, Below.trod hl h3.1 h3.2 h1 hb (fun x hx => hlt x (by simp [hx])), trodAll_stays hl hb (fun t' ht' => ht t' (by simp [ht'])) h2 (fun x hx => hlt x (by simp [hx])), rfl⟩
  | [], [], _ :: _, _, _, h, _ => h.elim
  | [], _ :: _, _, _, _, h, _ => by cases h
  | _ :: _, [], _, _, _, h, _ => by cases h
  | _ :: _, _ :: _, [], _, _, h, _ => by cases h

theorem law_post {H : Type} {enc : TypeId × Value → H} {P : Program} {fn : Func} {s : ChangeSpec} {W W' : World} {args : Array Value} {ds gs : List (DataW H)} {before : List MemPlace} {bt : TypeId}
    (hl : laidOutB P = true) (htb : (fn.params.toList.all fun t => P.readableRec t && decide (t < P.types.size)) = true) (hv : s.vars = []) (hres : fn.resultTypes = #[bt]) (hbt : P.underlying bt = some .bool)
    (hW : DataW.Whole enc P fn.params.toList s.vars false W args.toList ds gs before) (hs : s.fn H (ds ++ []) = { results := [.lit (.bool true)], args := ds }) (hk : Kp W W') :
    s.post enc P fn false true false false W args (.bool true) W' := by
  have hts : ∀ t ∈ fn.params.toList, P.readableRec t = true ∧ t < P.types.size := fun t ht => by
    have := List.all_eq_true.1 htb t ht
    simpa using this
  have hW0 := hW
  obtain ⟨p, q, hA, hV, rfl, hfz, _⟩ := hW
  rw [hv] at hV
  obtain ⟨rfl, rfl⟩ := trodVars_none hV
  have hlt : ∀ x ∈ p, x.block < W.heap.size := hA.lt
  refine ⟨ds, [], p ++ [], [], p, [], hW0, ?_, ?_, ?_, hk.frame _, fun h => by cases h⟩
  · rw [hs, hres]
    exact trodAll_mk1 (shut_bool hbt true)
  · rw [hs]
    exact trodAll_stays hl hk hts hA hlt
  · rw [hs, hv]; rfl

theorem Tryz.own : ownKnob Tryz.prog.godebug = none := by kernel_rfl
theorem Tryz.laidOut : laidOutB Tryz.prog = true := by kernel_rfl
theorem cells125 : Tryz.prog.cellsOf 199 = 1 := by kernel_rfl
theorem cells9 : Tryz.prog.cellsOf 9 = 1 := by kernel_rfl
theorem star : "*" ++ "errors.errorString" = "*errors.errorString" := by decide
theorem row107 (u : TypeId) (h : Tryz.prog.typeName? 3 u = some "*errors.errorString") : u = 197 :=
  typeName_ptr_named (nm := "errors.errorString") (by rw [star]; kernel_rfl) (by kernel_rfl) (by decide) u (by rw [star]; exact h)

end Go.Proofs.YtbdphdgomcabmaaGreatDoor

namespace Go.Proofs.YtbdphdgomcabmaaGreatDoor
open Go.ChangeShapes Go.WideShapes Go.RowKit Go.Deep

set_option maxRecDepth 100000 in
theorem name_of_trod {H : Type} {enc : TypeId × Value → H} {W : World} {v : Value} {d : DataW H} {p : List MemPlace} {r : Reach} {base : Nat} (hv : Value.okWide Tryz.prog W r base 26 v)
    (h : DataW.Trod enc Tryz.prog W 0 (fun _ => true) true 26 v d p) (hw : ∀ k ∈ d.weights Tryz.prog 26, k ≤ 140737488351232) (nm : ByteArray) (x y z : Value) (hnm : v = .agg #[.string nm, x, y, z]) : nm.size ≤ 140737488351232 := by
  obtain ⟨cs, hvc, hsz⟩ := okWide_struct (P := Tryz.prog) (w := W) (r := r) (base := base) (t := 26) (v := v) Tryz.underlying26 hv
  subst hvc
  have h26 : Tryz.prog.cellsOf 26 = 4 := by kernel_rfl
  rw [h26] at hsz
  obtain ⟨fuel, hf⟩ := h
  obtain ⟨l⟩ := cs
  simp at hsz
  obtain ⟨v0, v1, v2, v3, rfl⟩ : ∃ v0 v1 v2 v3, l = [v0, v1, v2, v3] := by
    match l, hsz with
    | [v0, v1, v2, v3], _ => exact ⟨_, _, _, _, rfl⟩
  simp only [Value.cells] at hf
  obtain ⟨xs, n, rfl, hx, _, hxl, hi⟩ := DataW.trod_struct Tryz.underlying26 hf
  obtain ⟨x0, x1, x2, rfl⟩ : ∃ x0 x1 x2, xs = [x0, x1, x2] := by
    match xs, hxl with
    | [x0, x1, x2], _ => exact ⟨_, _, _, rfl⟩
  have f0 := hi 0 { name := "Name", type := 9, offset := 0, embedded := false, tag := "", pkgPath := "", byteOffset := 0 } rfl
  simp only [show Tryz.prog.cellsOf 9 = 1 by kernel_rfl, List.drop, List.take, List.getElem?_cons_zero] at f0
  obtain rfl : d = _ := (Prod.mk.inj hx).1
  simp only [DataW.weights, Tryz.underlying26, List.map_cons, List.map_nil, DataW.weightsEach, List.mem_append] at hw
  obtain ⟨s, hs, hx0, hsm⟩ := DataW.trod_string Tryz.underlying9 f0
  obtain rfl : v0 = .string s := by simpa using hs
  subst hx0
  have h1 := hw s.data.toList.length (.inl (by simp [DataW.weights]))
  obtain rfl : s = nm := by
    simp only [Value.agg.injEq] at hnm
    have := congrArg (fun a => a.toList) hnm
    simp at this
    exact this.1
  rw [show s.size = s.data.toList.length from rfl]
  exact h1
theorem str_small {H : Type} {s : ByteArray} (hw : ∀ k ∈ (DataW.lit (.string s.data.toList) : DataW H).weights Tryz.prog 9, k ≤ 140737488351232) : s.size ≤ 140737488351232 := by
  rw [show s.size = s.data.toList.length from rfl]
  exact hw _ (by simp [DataW.weights])
end Go.Proofs.YtbdphdgomcabmaaGreatDoor

namespace Go.Proofs.YtbdphdgomcabmaaGreatDoor
open Go.RowKit

/-- A slice's parts. -/
structure Tv where
  ao : Option Addr
  n : Nat
  c : Nat
def tvv (t : Tv) : Value := .slice t.ao t.n t.c
/-- The cells of a list of messages. -/
def lnc : List Ln → List Tv → List Value
  | l :: r, t :: s => iv l.1 :: tvv t :: lnc r s
  | _, _ => []
theorem lnc_length : ∀ {ls : List Ln} {ts : List Tv}, ts.length = ls.length → (lnc ls ts).length = ls.length * 2
  | [], [], _ => rfl
  | l :: r, t :: s, h => by
    simp only [lnc, List.length_cons] at h ⊢
    rw [lnc_length (by omega)]; omega
theorem lnc_append : ∀ {ls : List Ln} {ts : List Tv} (l : Ln) (t : Tv), ts.length = ls.length → lnc (ls ++ [l]) (ts ++ [t]) = lnc ls ts ++ [iv l.1, tvv t]
  | [], [], _, _, _ => rfl
  | l :: r, t :: s, l', t', h => by
    simp only [List.length_cons] at h
    simp only [lnc, List.cons_append]
    rw [lnc_append l' t' (by omega)]
theorem lnc_get : ∀ {ls : List Ln} {ts : List Tv} (h : ts.length = ls.length) (j : Nat) (hj : j < ls.length), (lnc ls ts)[j * 2]? = some (iv ls[j].1) ∧ (lnc ls ts)[j * 2 + 1]? = some (tvv (ts[j]'(by omega)))
  | l :: r, t :: s, h, 0, _ => ⟨rfl, rfl⟩
  | l :: r, t :: s, h, j + 1, hj => by
    simp only [List.length_cons] at h hj
    have := lnc_get (ls := r) (ts := s) (by omega) j (by omega)
    simp only [lnc, List.getElem_cons_succ]
    rw [show (j + 1) * 2 = j * 2 + 1 + 1 by omega]
    exact this

theorem Own.is {w : World} {base : Nat} {e : TypeId} {ao : Option Addr} {n cap : Nat} {xs : List Int} (h : Own w base e 1 ao n cap (xs.map iv)) : Is w ao n xs := by
  have hl := h.1
  refine ⟨by simpa using hl, ?_, h.cs⟩
  rcases h.2 with ⟨_, hn⟩ | ⟨g, cap', cur, hv, _, _, h1, h2, _⟩
  · omega
  · exact Nat.le_trans h1 h2
theorem Own.store {w : World} {base : Nat} {e : TypeId} {size : Nat} {g : Nat} {n cap : Nat} {xs : List Value} (h : Own w base e size (some ⟨g, 0, none⟩) n cap xs) (j : Nat) (u : Value) :
    Own (w.setCell ⟨g, j, none⟩ u) base e size (some ⟨g, 0, none⟩) n cap (xs.set j u) := (World.ownsRow.stored h j u).1
theorem Own.cell {w : World} {base : Nat} {e : TypeId} {size : Nat} {g : Nat} {n cap : Nat} {xs : List Value} (h : Own w base e size (some ⟨g, 0, none⟩) n cap xs) (j : Nat) (hj : j < n * size) : w.cell? ⟨g, j, none⟩ = xs[j]? := World.ownsRow.cellAt h j hj
theorem Own.free {w : World} {base : Nat} {e : TypeId} {size : Nat} {g : Nat} {n cap : Nat} {xs : List Value} (h : Own w base e size (some ⟨g, 0, none⟩) n cap xs) (j : Nat) : w.frozen? ⟨g, j, none⟩ = false := World.ownsRow.frozenAt h j

theorem getD_lt {α : Type} (l : List α) (d : α) {i : Nat} (h : i < l.length) : l.getD i d = l[i] := by simp [List.getD_eq_getElem?_getD, List.getElem?_eq_getElem h]
theorem getD_ge {α : Type} (l : List α) (d : α) {i : Nat} (h : l.length ≤ i) : l.getD i d = d := by simp [List.getD_eq_getElem?_getD, List.getElem?_eq_none h]
def nilT : Tv := ⟨none, 0, 0⟩
/-- No two rows lie in one block. -/
def Disj (rows : List Tv) : Prop := ∀ i j x, x ∈ blkL (rows.getD i nilT).ao → x ∈ blkL (rows.getD j nilT).ao → i = j
theorem Disj.upd {rows rows' : List Tv} {s k : Nat} (h : Disj rows) (hlt : ∀ i, i ≠ k → ∀ x ∈ blkL (rows.getD i nilT).ao, x < s) (heq : ∀ i, i ≠ k → rows'.getD i nilT = rows.getD i nilT)
    (hk : ∀ x ∈ blkL (rows'.getD k nilT).ao, x ∈ blkL (rows.getD k nilT).ao ∨ s ≤ x) : Disj rows' := by
  intro i j x hi hj
  by_cases h1 : i = k
  · by_cases h2 : j = k
    · rw [h1, h2]
    · subst h1
      rw [heq j h2] at hj
      rcases hk x hi with q | q
      · exact h i j x q hj
      · have := hlt j h2 x hj; omega
  · by_cases h2 : j = k
    · subst h2
      rw [heq i h1] at hi
      rcases hk x hj with q | q
      · exact h i j x hi q
      · have := hlt i h1 x hi; omega
    · rw [heq i h1] at hi
      rw [heq j h2] at hj
      exact h i j x hi hj

/-- A pattern of the call's own. -/
structure PatO (w : World) (B : Nat) (t0 t1 tl : Tv) (ts : List Tv) (b0 b1 : List Int) (ls : List Ln) : Prop where
  len : ts.length = ls.length
  o0 : Own w B 3 1 t0.ao t0.n t0.c (b0.map iv)
  o1 : Own w B 3 1 t1.ao t1.n t1.c (b1.map iv)
  ol : Own w B 45 2 tl.ao tl.n tl.c (lnc ls ts)
  ot : ∀ (j : Nat) (t : Tv) (l : Ln), ts[j]? = some t → ls[j]? = some l → Own w B 3 1 t.ao t.n t.c (l.2.map iv)
  dj : Disj (t0 :: t1 :: tl :: ts)
theorem PatO.nil (w : World) (B : Nat) : PatO w B nilT nilT nilT [] [] [] [] :=
  ⟨rfl, Own.nil _ _ _ _, Own.nil _ _ _ _, Own.nil _ _ _ _, fun j t l h => by simp at h, fun i j x hi => by
    rcases i with _ | _ | _ | i <;> simp [nilT, blkL, blk] at hi⟩
section
variable {w w' : World} {B : Nat} {t0 t1 tl : Tv} {ts : List Tv} {b0 b1 : List Int} {ls : List Ln}
theorem PatO.n0 (h : PatO w B t0 t1 tl ts b0 b1 ls) : t0.n = b0.length := by have := h.o0.1; simp at this; omega
theorem PatO.n1 (h : PatO w B t0 t1 tl ts b0 b1 ls) : t1.n = b1.length := by have := h.o1.1; simp at this; omega
theorem PatO.nl (h : PatO w B t0 t1 tl ts b0 b1 ls) : tl.n = ls.length := by have := h.ol.1; rw [lnc_length h.len] at this; omega
theorem PatO.row {i : Nat} {x : Nat} (h : PatO w B t0 t1 tl ts b0 b1 ls) (hx : x ∈ blkL ((t0 :: t1 :: tl :: ts).getD i nilT).ao) : B ≤ x ∧ x < w.heap.size := by
  rcases i with _ | _ | _ | i
  · exact h.o0.lt x (mem_blkL.1 hx)
  · exact h.o1.lt x (mem_blkL.1 hx)
  · exact h.ol.lt x (mem_blkL.1 hx)
  · simp only [List.getD_cons_succ] at hx
    by_cases hi : i < ts.length
    · have hl : i < ls.length := by rw [← h.len]; exact hi
      rw [getD_lt _ _ hi] at hx
      exact (h.ot i _ _ (List.getElem?_eq_getElem hi) (List.getElem?_eq_getElem hl)).lt x (mem_blkL.1 hx)
    · rw [getD_ge _ _ (by omega)] at hx
      simp [nilT, blkL, blk] at hx
theorem PatO.fr {X : List Nat} (h : PatO w B t0 t1 tl ts b0 b1 ls) (k : Fr X w w') (hX : ∀ x ∈ X, x < B ∨ w.heap.size ≤ x) : PatO w' B t0 t1 tl ts b0 b1 ls := by
  have hd : ∀ i, ∀ x ∈ blkL ((t0 :: t1 :: tl :: ts).getD i nilT).ao, x ∉ X := fun i x hx hq => by have := h.row hx; have := hX x hq; omega
  refine ⟨h.len, k.own h.o0 (hd 0), k.own h.o1 (hd 1), k.own h.ol (hd 2), fun j t l ht hl => k.own (h.ot j t l ht hl) (fun x hx => hd (j + 3) x ?_), h.dj⟩
  have hj := (List.getElem?_eq_some_iff.1 ht)
  obtain ⟨hj, rfl⟩ := hj
  simp only [List.getD_cons_succ]
  rw [getD_lt _ _ hj]; exact hx
theorem PatO.kp (h : PatO w B t0 t1 tl ts b0 b1 ls) (k : Kp w w') : PatO w' B t0 t1 tl ts b0 b1 ls := h.fr (Fr.of_kp k) (by simp)
theorem PatO.is0 (h : PatO w B t0 t1 tl ts b0 b1 ls) : Is w t0.ao t0.n b0 := h.o0.is
theorem PatO.is1 (h : PatO w B t0 t1 tl ts b0 b1 ls) : Is w t1.ao t1.n b1 := h.o1.is
theorem PatO.lns (h : PatO w B t0 t1 tl ts b0 b1 ls) (hn : ls.length ≤ 1000) (ht : ∀ l ∈ ls, l.2.length ≤ 1000) : Lns w tl.ao tl.n ls := by
  refine ⟨h.nl.symm, by have := h.nl; omega, fun j hj => ?_⟩
  obtain ⟨b, off, e, hc⟩ := h.ol.cs.at (j * 2) (by rw [lnc_length h.len]; omega)
  obtain ⟨g0, g1⟩ := lnc_get h.len j hj
  have hj' : j < ts.length := by rw [h.len]; exact hj
  have ho := h.ot j _ _ (List.getElem?_eq_getElem hj') (List.getElem?_eq_getElem hj)
  have h1 := ho.1
  have h2 := ht _ (List.getElem_mem hj)
  simp at h1
  exact ⟨b, off, _, _, _, e, hc _ _ g0, by have := hc _ _ g1; rwa [← Nat.add_assoc] at this, ho.is, by omega⟩

/-- One row has grown; the others are as they were. -/
theorem PatO.others {k : Nat} (h : PatO w B t0 t1 tl ts b0 b1 ls) (_f : Fr (blkL ((t0 :: t1 :: tl :: ts).getD k nilT).ao) w w') (i : Nat) (hi : i ≠ k) : ∀ x ∈ blkL ((t0 :: t1 :: tl :: ts).getD i nilT).ao, x ∉ blkL ((t0 :: t1 :: tl :: ts).getD k nilT).ao :=
  fun x hx hq => hi (h.dj i k x hx hq)
theorem PatO.app0 {ao' : Option Addr} {cap' N : Nat} (h : PatO w B t0 t1 tl ts b0 b1 ls) (t : Int) (ha : Appd w w' B 3 1 t0.ao t0.c 1 N ((b0 ++ [t]).map iv) ao' cap') : PatO w' B ⟨ao', N, cap'⟩ t1 tl ts (b0 ++ [t]) b1 ls := by
  have f := ha.fr
  have ho := fun i hi => PatO.others (k := 0) h f i hi
  refine ⟨h.len, ha.own, f.own h.o1 (ho 1 (by simp)), f.own h.ol (ho 2 (by simp)), fun j t l ht hl => f.own (h.ot j t l ht hl) (fun x hx => ho (j + 3) (by simp) x ?_), ?_⟩
  · obtain ⟨hj, rfl⟩ := (List.getElem?_eq_some_iff.1 ht)
    simp only [List.getD_cons_succ]
    rw [getD_lt _ _ hj]; exact hx
  · refine h.dj.upd (s := w.heap.size) (k := 0) (fun i _ x hx => (h.row hx).2) (fun i hi => ?_) (fun x hx => ?_)
    · rcases i with _ | i
      · exact absurd rfl hi
      · rfl
    · rcases ha.fresh x (mem_blkL.1 hx) with q | q
      · exact .inl (mem_blkL.2 q)
      · exact .inr (by omega)
theorem PatO.app1 {ao' : Option Addr} {cap' N : Nat} (h : PatO w B t0 t1 tl ts b0 b1 ls) (t : Int) (ha : Appd w w' B 3 1 t1.ao t1.c 1 N ((b1 ++ [t]).map iv) ao' cap') : PatO w' B t0 ⟨ao', N, cap'⟩ tl ts b0 (b1 ++ [t]) ls := by
  have f := ha.fr
  have ho := fun i hi => PatO.others (k := 1) h f i hi
  refine ⟨h.len, f.own h.o0 (ho 0 (by simp)), ha.own, f.own h.ol (ho 2 (by simp)), fun j t l ht hl => f.own (h.ot j t l ht hl) (fun x hx => ho (j + 3) (by simp) x ?_), ?_⟩
  · obtain ⟨hj, rfl⟩ := (List.getElem?_eq_some_iff.1 ht)
    simp only [List.getD_cons_succ]
    rw [getD_lt _ _ hj]; exact hx
  · refine h.dj.upd (s := w.heap.size) (k := 1) (fun i _ x hx => (h.row hx).2) (fun i hi => ?_) (fun x hx => ?_)
    · rcases i with _ | _ | i
      · rfl
      · exact absurd rfl hi
      · rfl
    · rcases ha.fresh x (mem_blkL.1 hx) with q | q
      · exact .inl (mem_blkL.2 q)
      · exact .inr (by omega)
/-- One message more, with no token yet. -/
theorem PatO.appl {ao' : Option Addr} {cap' N : Nat} (h : PatO w B t0 t1 tl ts b0 b1 ls) (f : Int) (ha : Appd w w' B 45 2 tl.ao tl.c 1 N (lnc (ls ++ [(f, [])]) (ts ++ [nilT])) ao' cap') : PatO w' B t0 t1 ⟨ao', N, cap'⟩ (ts ++ [nilT]) b0 b1 (ls ++ [(f, [])]) := by
  have fr := ha.fr
  have ho := fun i hi => PatO.others (k := 2) h fr i hi
  refine ⟨by simp [h.len], fr.own h.o0 (ho 0 (by simp)), fr.own h.o1 (ho 1 (by simp)), ha.own, fun j t l ht hl => ?_, ?_⟩
  · rcases Nat.lt_or_ge j ts.length with hj | hj
    · rw [List.getElem?_append_left hj] at ht
      rw [List.getElem?_append_left (by rw [← h.len]; exact hj)] at hl
      refine fr.own (h.ot j t l ht hl) (fun x hx => ho (j + 3) (by simp) x ?_)
      obtain ⟨hj, rfl⟩ := (List.getElem?_eq_some_iff.1 ht)
      simp only [List.getD_cons_succ]
      rw [getD_lt _ _ hj]; exact hx
    · rw [List.getElem?_append_right hj] at ht
      rw [List.getElem?_append_right (by rw [← h.len]; exact hj)] at hl
      have e1 := List.mem_of_getElem? ht
      have e2 := List.mem_of_getElem? hl
      simp at e1 e2
      subst e1; subst e2
      exact Own.nil _ _ _ _
  · refine h.dj.upd (s := w.heap.size) (k := 2) (fun i _ x hx => (h.row hx).2) (fun i hi => ?_) (fun x hx => ?_)
    · rcases i with _ | _ | _ | i
      · rfl
      · rfl
      · exact absurd rfl hi
      · simp only [List.getD_cons_succ]
        rw [List.getD_eq_getElem?_getD, List.getD_eq_getElem?_getD]
        rcases Nat.lt_or_ge i ts.length with hj | hj
        · rw [List.getElem?_append_left hj]
        · rw [List.getElem?_append_right hj, List.getElem?_eq_none hj]
          rcases Nat.eq_zero_or_pos (i - ts.length) with h0 | h0
          · rw [h0]; rfl
          · rw [List.getElem?_eq_none (by simp; omega)]
    · rcases ha.fresh x (mem_blkL.1 hx) with q | q
      · exact .inl (mem_blkL.2 q)
      · exact .inr (by omega)
end

theorem lnc_last (ls : List Ln) (ts : List Tv) (f : Int) (xs ys : List Int) (t t' : Tv) (h : ts.length = ls.length) : (lnc (ls ++ [(f, xs)]) (ts ++ [t])).set (ls.length * 2 + 1) (tvv t') = lnc (ls ++ [(f, ys)]) (ts ++ [t']) := by
  rw [lnc_append _ _ h, lnc_append _ _ h, List.set_append_right _ _ (by rw [lnc_length h]; omega), lnc_length h, show ls.length * 2 + 1 - ls.length * 2 = 1 by omega]
  rfl
/-- A token more in the last message: its list has grown, and then its place among the messages. -/
theorem PatO.appt {w w' : World} {B : Nat} {t0 t1 : Tv} {ts : List Tv} {b0 b1 : List Int} {ls : List Ln} {g nl cl : Nat} {t : Tv} {f : Int} {xs : List Int} {ao' : Option Addr} {cap' N : Nat}
    (h : PatO w B t0 t1 ⟨some ⟨g, 0, none⟩, nl, cl⟩ (ts ++ [t]) b0 b1 (ls ++ [(f, xs)])) (x : Int) (ha : Appd w w' B 3 1 t.ao t.c 1 N ((xs ++ [x]).map iv) ao' cap') :
    PatO (w'.setCell ⟨g, ls.length * 2 + 1, none⟩ (tvv ⟨ao', N, cap'⟩)) B t0 t1 ⟨some ⟨g, 0, none⟩, nl, cl⟩ (ts ++ [⟨ao', N, cap'⟩]) b0 b1 (ls ++ [(f, xs ++ [x])]) := by
  have hlen : ts.length = ls.length := by have := h.len; simp at this; exact this
  have fr := ha.fr
  have hkey : ((t0 :: t1 :: ⟨some ⟨g, 0, none⟩, nl, cl⟩ :: (ts ++ [t])).getD (ts.length + 3) nilT) = t := by
    simp
  have ho := fun i hi => PatO.others (k := ts.length + 3) (w' := w') h (by rw [hkey]; exact fr) i hi
  rw [hkey] at ho
  have hs := Fr.set w' ⟨g, ls.length * 2 + 1, none⟩ (tvv ⟨ao', N, cap'⟩)
  have hgB := (h.row (i := 2) (x := g) (by simp [blkL, blk]))
  have hg0 : ∀ i, i ≠ 2 → ∀ y ∈ blkL ((t0 :: t1 :: ⟨some ⟨g, 0, none⟩, nl, cl⟩ :: (ts ++ [t])).getD i nilT).ao, y ∉ [g] := fun i hi y hy hq => by
    simp only [List.mem_singleton] at hq
    exact hi (h.dj i 2 y hy (by subst hq; simp [blkL, blk]))
  have hgn : ∀ y ∈ blkL ao', y ∉ [g] := fun y hy hq => by
    simp only [List.mem_singleton] at hq
    subst hq
    rcases ha.fresh y (mem_blkL.1 hy) with q | q
    · exact hg0 (ts.length + 3) (by omega) y (by rw [hkey]; exact mem_blkL.2 q) (by simp)
    · omega
  refine ⟨by simp [hlen], hs.own (fr.own h.o0 (ho 0 (by simp))) (hg0 0 (by simp)), hs.own (fr.own h.o1 (ho 1 (by simp))) (hg0 1 (by simp)), ?_, fun j t' l' ht hl => ?_, ?_⟩
  · have := (fr.own h.ol (ho 2 (by simp))).store (ls.length * 2 + 1) (tvv ⟨ao', N, cap'⟩)
    rwa [lnc_last ls ts f xs (xs ++ [x]) t ⟨ao', N, cap'⟩ hlen] at this
  · rcases Nat.lt_or_ge j ts.length with hj | hj
    · rw [List.getElem?_append_left hj] at ht
      rw [List.getElem?_append_left (by rw [← hlen]; exact hj)] at hl
      have hb : ∀ y ∈ blkL t'.ao, y ∈ blkL ((t0 :: t1 :: ⟨some ⟨g, 0, none⟩, nl, cl⟩ :: (ts ++ [t])).getD (j + 3) nilT).ao := fun y hy => by
        obtain ⟨hj', rfl⟩ := (List.getElem?_eq_some_iff.1 ht)
        simp only [List.getD_cons_succ]
        rw [getD_lt _ _ (by simp; omega), List.getElem_append_left hj']; exact hy
      refine hs.own (fr.own (h.ot j t' l' (by rw [List.getElem?_append_left hj]; exact ht) (by rw [List.getElem?_append_left (by rw [← hlen]; exact hj)]; exact hl)) (fun y hy => ho (j + 3) (by omega) y (hb y hy))) (fun y hy => hg0 (j + 3) (by omega) y (hb y hy))
    · rw [List.getElem?_append_right hj] at ht
      rw [List.getElem?_append_right (by rw [← hlen]; exact hj)] at hl
      have e1 := List.mem_of_getElem? ht
      have e2 := List.mem_of_getElem? hl
      simp only [List.mem_singleton] at e1 e2
      subst e1; subst e2
      exact hs.own ha.own hgn
  · refine h.dj.upd (s := w.heap.size) (k := ts.length + 3) (fun i _ y hy => (h.row hy).2) (fun i hi => ?_) (fun y hy => ?_)
    · rcases i with _ | _ | _ | i
      · rfl
      · rfl
      · rfl
      · simp only [List.getD_cons_succ]
        rw [List.getD_eq_getElem?_getD, List.getD_eq_getElem?_getD]
        rcases Nat.lt_or_ge i ts.length with hj | hj
        · rw [List.getElem?_append_left hj, List.getElem?_append_left hj]
        · rw [List.getElem?_eq_none (by simp; omega), List.getElem?_eq_none (by simp; omega)]
    · rw [hkey]
      simp at hy
      rcases ha.fresh y (mem_blkL.1 hy) with q | q
      · exact .inl (mem_blkL.2 q)
      · exact .inr (by omega)
end Go.Proofs.YtbdphdgomcabmaaGreatDoor

namespace Go.Proofs.YtbdphdgomcabmaaGreatDoor
open Go.RowKit

set_option maxHeartbeats 2000000 in
theorem exec_load3 {w : World} {p : Addr} {f : Int} (h : w.cell? p = some (iv f)) {ρ : Operand → Value} {x : Operand} (hx : ρ x = .pointer (some p)) {o : Oper} (ho : o.op = .load 3 x) : (execOp ρ o).run Tryz.prog w = .ok (.value (iv f)) w := by
  simp only [execOp, ho, hx]
  go_simp
set_option maxHeartbeats 2000000 in
theorem exec_load22 {w : World} {p : Addr} {a : Option Addr} {n c : Nat} (h : w.cell? p = some (.slice a n c)) {ρ : Operand → Value} {x : Operand} (hx : ρ x = .pointer (some p)) {o : Oper} (ho : o.op = .load 22 x) : (execOp ρ o).run Tryz.prog w = .ok (.value (.slice a n c)) w := by
  simp only [execOp, ho, hx]
  go_simp
set_option maxHeartbeats 2000000 in
theorem exec_load24 {w : World} {p : Addr} {a : Option Addr} {n c : Nat} (h : w.cell? p = some (.slice a n c)) {ρ : Operand → Value} {x : Operand} (hx : ρ x = .pointer (some p)) {o : Oper} (ho : o.op = .load 24 x) : (execOp ρ o).run Tryz.prog w = .ok (.value (.slice a n c)) w := by
  simp only [execOp, ho, hx]
  go_simp
end Go.Proofs.YtbdphdgomcabmaaGreatDoor

namespace Go.Proofs.YtbdphdgomcabmaaGreatDoor
open Go.RowKit

section
variable {w w' : World} {B : Nat} {t0 t1 tl : Tv} {ts : List Tv} {b0 b1 : List Int} {ls : List Ln}
/-- A whole message more, whose tokens lie in younger memory. -/
theorem PatO.appw {ao' : Option Addr} {cap' N s : Nat} {l : Ln} {t : Tv} (h : PatO w B t0 t1 tl ts b0 b1 ls) (ho : Own w B 3 1 t.ao t.n t.c (l.2.map iv))
    (hs : ∀ i, ∀ y ∈ blkL ((t0 :: t1 :: tl :: ts).getD i nilT).ao, y < s) (ht : ∀ y ∈ blkL t.ao, s ≤ y)
    (ha : Appd w w' B 45 2 tl.ao tl.c 1 N (lnc (ls ++ [l]) (ts ++ [t])) ao' cap') : PatO w' B t0 t1 ⟨ao', N, cap'⟩ (ts ++ [t]) b0 b1 (ls ++ [l]) := by
  have fr := ha.fr
  have hx := fun i hi => PatO.others (k := 2) h fr i hi
  have hn : ∀ y ∈ blkL t.ao, y ∉ blkL tl.ao := fun y hy hq => by have := ht y hy; have := hs 2 y hq; omega
  have hlt := fun y hy => ho.lt y (mem_blkL.1 hy)
  refine ⟨by simp [h.len], fr.own h.o0 (hx 0 (by simp)), fr.own h.o1 (hx 1 (by simp)), ha.own, fun j t' l' ht' hl' => ?_, ?_⟩
  · rcases Nat.lt_or_ge j ts.length with hj | hj
    · rw [List.getElem?_append_left hj] at ht'
      rw [List.getElem?_append_left (by rw [← h.len]; exact hj)] at hl'
      refine fr.own (h.ot j t' l' ht' hl') (fun x hx' => hx (j + 3) (by simp) x ?_)
      obtain ⟨hj, rfl⟩ := (List.getElem?_eq_some_iff.1 ht')
      simp only [List.getD_cons_succ]
      rw [getD_lt _ _ hj]; exact hx'
    · rw [List.getElem?_append_right hj] at ht'
      rw [List.getElem?_append_right (by rw [← h.len]; exact hj)] at hl'
      have e1 := List.mem_of_getElem? ht'
      have e2 := List.mem_of_getElem? hl'
      simp only [List.mem_singleton] at e1 e2
      subst e1; subst e2
      exact fr.own ho hn
  · have hdj : Disj (t0 :: t1 :: tl :: (ts ++ [t])) := by
      refine h.dj.upd (s := s) (k := ts.length + 3) (fun i _ => hs i) (fun i hi => ?_) (fun x hx' => ?_)
      · rcases i with _ | _ | _ | i
        · rfl
        · rfl
        · rfl
        · simp only [List.getD_cons_succ]
          rw [List.getD_eq_getElem?_getD, List.getD_eq_getElem?_getD]
          rcases Nat.lt_or_ge i ts.length with hj | hj
          · rw [List.getElem?_append_left hj]
          · rw [List.getElem?_eq_none (by simp; omega), List.getElem?_eq_none (by omega)]
      · have hkey : ((t0 :: t1 :: tl :: (ts ++ [t])).getD (ts.length + 3) nilT) = t := by simp
        rw [hkey] at hx'
        exact .inr (ht x hx')
    refine hdj.upd (s := w.heap.size) (k := 2) (fun i _ x hx' => ?_) (fun i hi => ?_) (fun x hx' => ?_)
    · rcases i with _ | _ | _ | i
      · exact (h.row (i := 0) hx').2
      · exact (h.row (i := 1) hx').2
      · exact (h.row (i := 2) hx').2
      · simp only [List.getD_cons_succ] at hx'
        rcases Nat.lt_or_ge i (ts ++ [t]).length with hj | hj
        · rw [getD_lt _ _ hj] at hx'
          rcases Nat.lt_or_ge i ts.length with hi' | hi'
          · rw [List.getElem_append_left hi'] at hx'
            exact (h.row (i := i + 3) (by simp only [List.getD_cons_succ]; rw [getD_lt _ _ hi']; exact hx')).2
          · rw [List.getElem_append_right hi'] at hx'
            simp only [List.getElem_singleton] at hx'
            exact (hlt x hx').2
        · rw [getD_ge _ _ hj] at hx'
          simp [nilT, blkL, blk] at hx'
    · rcases i with _ | _ | _ | i
      · rfl
      · rfl
      · exact absurd rfl hi
      · rfl
    · rcases ha.fresh x (mem_blkL.1 hx') with q | q
      · exact .inl (mem_blkL.2 q)
      · exact .inr (by omega)
/-- Two rows of it, apart from one another, as what is known ahead. -/
theorem PatO.pick {u0 u1 : Tv} {c0 c1 : List Int} (h : PatO w B t0 t1 tl ts b0 b1 ls) (h0 : Own w B 3 1 u0.ao u0.n u0.c (c0.map iv)) (h1 : Own w B 3 1 u1.ao u1.n u1.c (c1.map iv))
    (i j : Nat) (hij : i ≠ j) (hi : (t0 :: t1 :: tl :: ts).getD i nilT = u0) (hj : (t0 :: t1 :: tl :: ts).getD j nilT = u1) : PatO w B u0 u1 nilT [] c0 c1 [] := by
  have hab : ∀ x, x ∈ blkL u0.ao → x ∈ blkL u1.ao → False := fun x hx hy => hij (h.dj i j x (by rw [hi]; exact hx) (by rw [hj]; exact hy))
  refine ⟨rfl, h0, h1, Own.nil _ _ _ _, fun j t l ht => by simp at ht, fun p q x hp hq => ?_⟩
  rcases p with _ | _ | _ | p <;> rcases q with _ | _ | _ | q <;> first
    | rfl
    | (simp [nilT, blkL, blk] at hp; done)
    | (simp [nilT, blkL, blk] at hq; done)
    | exact (hab x hp hq).elim
    | exact (hab x hq hp).elim
end

/-- What is known ahead when these messages have been put there. -/
def selT : List Ln → List Tv → Tv × Tv → Tv × Tv
  | l :: ls, t :: ts, p => selT ls ts (if l.1 = 0 then (t, p.2) else (p.1, t))
  | _, _, p => p
theorem selT_step : ∀ {ls : List Ln} {ts : List Tv} {k : Nat} {l : Ln} {t : Tv} (p : Tv × Tv), ls[k]? = some l → ts[k]? = some t →
    selT (ls.take (k + 1)) (ts.take (k + 1)) p = if l.1 = 0 then (t, (selT (ls.take k) (ts.take k) p).2) else ((selT (ls.take k) (ts.take k) p).1, t) := by
  intro ls
  induction ls with
  | nil => intro ts k l t p h; simp at h
  | cons a r ih =>
    intro ts k l t p h h2
    cases ts with
    | nil => simp at h2
    | cons b r2 =>
      rcases k with _ | k
      · simp at h h2
        subst h; subst h2
        simp [selT]
      · simp only [List.getElem?_cons_succ] at h h2
        simp only [List.take_succ_cons, selT]
        exact ih _ h h2
theorem selT_all (ls : List Ln) (ts : List Tv) (p : Tv × Tv) (h : ts.length = ls.length) : selT (ls.take ls.length) (ts.take ls.length) p = selT ls ts p := by
  rw [List.take_length, ← h, List.take_length]
/-- The row of three dots, in memory. -/
theorem PatO.moved {w : World} {B : Nat} {t0 t1 tl : Tv} {ts : List Tv} {S : Q.Rd} (h : PatO w B t0 t1 tl ts S.b0 S.b1 S.ls) (hf : ∀ l ∈ S.ls, l.1 = 0 ∨ l.1 = 1) (hr : Q.restOk S = true) :
    PatO w B (selT S.ls ts (t0, t1)).1 (selT S.ls ts (t0, t1)).2 nilT [] (Q.moved S).b0 (Q.moved S).b1 (Q.moved S).ls := by
  obtain ⟨b0, b1, ls, rest⟩ := S
  simp only [Q.restOk, Bool.and_eq_true] at hr
  obtain ⟨_, hr⟩ := hr
  have hlen := h.len
  rcases ls with _ | ⟨a, _ | ⟨b, _ | ⟨c, r⟩⟩⟩
  · simp at hr
  · obtain ⟨t, rfl⟩ : ∃ t, ts = [t] := by
      rcases ts with _ | ⟨t, _ | ⟨u, r⟩⟩ <;> simp at hlen
      exact ⟨t, rfl⟩
    have ho := h.ot 0 t a rfl rfl
    by_cases ha : a.1 = 0
    · simp only [selT, if_pos ha, Q.moved, List.foldl_cons, List.foldl_nil]
      exact h.pick ho h.o1 3 1 (by omega) rfl rfl
    · simp only [selT, if_neg ha, Q.moved, List.foldl_cons, List.foldl_nil]
      exact h.pick h.o0 ho 0 3 (by omega) rfl rfl
  · obtain ⟨t, u, rfl⟩ : ∃ t u, ts = [t, u] := by
      rcases ts with _ | ⟨t, _ | ⟨u, _ | ⟨v, r⟩⟩⟩ <;> simp at hlen
      exact ⟨t, u, rfl⟩
    have ho := h.ot 0 t a rfl rfl
    have hp := h.ot 1 u b rfl rfl
    have hlt : a.1 < b.1 := of_decide_eq_true hr
    have h1 := hf a (by simp)
    have h2 := hf b (by simp)
    have ha : a.1 = 0 := by omega
    have hb : ¬ b.1 = 0 := by omega
    simp only [selT, if_pos ha, if_neg hb, Q.moved, List.foldl_cons, List.foldl_nil]
    exact h.pick ho hp 3 4 (by omega) rfl rfl
  · simp at hr
theorem lineP_from {s : Q.Bt} {l : Ln} (h : Q.lineP s = some l) : l.1 = 0 ∨ l.1 = 1 := by
  unfold Q.lineP at h
  split at h
  · cases hw : Q.wordsT (Lib.split (s.drop 5) Q.comma) with
    | none => rw [hw] at h; simp at h
    | some x => rw [hw] at h; simp only [Option.map_some, Option.some.injEq] at h; exact .inl (by rw [← h])
  · split at h
    · cases hw : Q.wordsT (Lib.split (s.drop 5) Q.comma) with
      | none => rw [hw] at h; simp at h
      | some x => rw [hw] at h; simp only [Option.map_some, Option.some.injEq] at h; exact .inr (by rw [← h])
    · cases h
end Go.Proofs.YtbdphdgomcabmaaGreatDoor

namespace Go.Proofs.YtbdphdgomcabmaaGreatDoor.Q
abbrev oneWayL (ls : List Ln) : Bool := Go.Proofs.YtbdphdgomcabmaaGreatDoor.oneWay ls
end Go.Proofs.YtbdphdgomcabmaaGreatDoor.Q

namespace Go.Proofs.YtbdphdgomcabmaaGreatDoor.Q

/-- The tokens with their senders, one behind the other. -/
def flat (ls : List Ln) : List (Int × Int) := ls.flatMap (fun l => l.2.map (fun t => (l.1, t)))
/-- How often a token stands in a side's lists. -/
def cntS (b : List Int) (f : Int) (xs : List (Int × Int)) (t : Int) : Nat := b.count t + xs.count (f, t)
/-- How often it stands in the messages. -/
def cntT (xs : List (Int × Int)) (t : Int) : Nat := xs.countP (fun x => x.2 == t)
/-- What the state says of what has stood so far. -/
structure Inv (b0 b1 : List Int) (xs : List (Int × Int)) (S : Nat → Bool) : Prop where
  k0 : ∀ t, t = 1 ∨ t = 2 → cntS b0 0 xs t ≤ 1 ∧ (S t.toNat = true ↔ cntS b0 0 xs t = 1)
  k1 : ∀ t, t = 1 ∨ t = 2 → cntS b1 1 xs t ≤ 1 ∧ (S (3 + t).toNat = true ↔ cntS b1 1 xs t = 1)
  sec : ∀ t, t = 3 ∨ t = 4 ∨ t = 5 ∨ t = 6 → cntT xs t ≤ 1 ∧ (S (6 + t).toNat = true ↔ cntT xs t = 1) ∧ (cntT xs t = 1 → cntS b0 0 xs (wantI t) = 1 ∧ cntS b1 1 xs (wantR t) = 1)
theorem cntS_snoc (b : List Int) (f : Int) (xs : List (Int × Int)) (g t u : Int) : cntS b f (xs ++ [(g, u)]) t = cntS b f xs t + if g = f ∧ u = t then 1 else 0 := by
  unfold cntS
  rw [List.count_append, List.count_singleton]
  by_cases h : g = f ∧ u = t
  · obtain ⟨rfl, rfl⟩ := h; simp; omega
  · rw [if_neg h, if_neg (by simpa [Prod.ext_iff] using h)]; omega
theorem cntT_snoc (xs : List (Int × Int)) (g t u : Int) : cntT (xs ++ [(g, u)]) t = cntT xs t + if u = t then 1 else 0 := by
  unfold cntT
  rw [List.countP_append, List.countP_singleton]
  by_cases h : u = t <;> simp [h]
theorem want_of (t : Int) (h : t = 3 ∨ t = 4 ∨ t = 5 ∨ t = 6) : (wantI t = 1 ∨ wantI t = 2) ∧ (wantR t = 1 ∨ wantR t = 2) := by
  rcases h with rfl | rfl | rfl | rfl <;> decide
theorem Inv.step {b0 b1 : List Int} {xs : List (Int × Int)} {S : Nat → Bool} (h : Inv b0 b1 xs S) {f t : Int} (hf : f = 0 ∨ f = 1) (ht : 1 ≤ t) (ht' : t ≤ 7) {last : Bool} (ho : offL S f t last = 0) :
    Inv b0 b1 (xs ++ [(f, t)]) (tookL S f t) := by
  have hcases : t = 1 ∨ t = 2 ∨ t = 3 ∨ t = 4 ∨ t = 5 ∨ t = 6 ∨ t = 7 := by omega
  have h1 : ((keyT t && S (3 * f + t).toNat) || (isSec t && S (6 + t).toNat)) = false := by
    cases hq : ((keyT t && S (3 * f + t).toNat) || (isSec t && S (6 + t).toNat)) with
    | false => rfl
    | true => unfold offL at ho; rw [hq] at ho; simp at ho
  have h2 : (isSec t && (!S (wantI t).toNat || !S (3 + wantR t).toNat)) = false := by
    cases hq : (isSec t && (!S (wantI t).toNat || !S (3 + wantR t).toNat)) with
    | false => rfl
    | true => unfold offL at ho; rw [h1, hq] at ho; simp at ho
  clear ho
  have key : ∀ (side u : Int), (side = 0 ∨ side = 1) → (u = 1 ∨ u = 2) → tookL S f t (3 * side + u).toNat = (S (3 * side + u).toNat || (decide (f = side) && decide (t = u))) := by
    intro side u hs hu
    rcases hs with rfl | rfl <;> rcases hu with rfl | rfl <;> rcases hf with rfl | rfl <;> rcases hcases with rfl | rfl | rfl | rfl | rfl | rfl | rfl <;> simp [tookL, upd, keyT]
  have sec : ∀ u : Int, (u = 3 ∨ u = 4 ∨ u = 5 ∨ u = 6) → tookL S f t (6 + u).toNat = (S (6 + u).toNat || decide (t = u)) := by
    intro u hu
    rcases hu with rfl | rfl | rfl | rfl <;> rcases hf with rfl | rfl <;> rcases hcases with rfl | rfl | rfl | rfl | rfl | rfl | rfl <;> simp [tookL, upd, keyT]
  have K0 : ∀ u, u = 1 ∨ u = 2 → cntS b0 0 (xs ++ [(f, t)]) u ≤ 1 ∧ (tookL S f t u.toNat = true ↔ cntS b0 0 (xs ++ [(f, t)]) u = 1) := by
    intro u hu
    have := h.k0 u hu
    have e := key 0 u (.inl rfl) hu
    simp only [Int.mul_zero, Int.zero_add] at e
    rw [e, cntS_snoc]
    by_cases hq : f = 0 ∧ t = u
    · obtain ⟨rfl, rfl⟩ := hq
      have hn : S t.toNat = false := by
        have hk : keyT t = true := by rcases hu with rfl | rfl <;> rfl
        rw [hk] at h1
        simpa using (Bool.or_eq_false_iff.1 h1).1
      have : cntS b0 0 xs t ≠ 1 := fun hc => by rw [(this.2).2 hc] at hn; cases hn
      simp; omega
    · rw [if_neg hq]
      have : (decide (f = 0) && decide (t = u)) = false := by simpa using hq
      rw [this]; simpa using h.k0 u hu
  have K1 : ∀ u, u = 1 ∨ u = 2 → cntS b1 1 (xs ++ [(f, t)]) u ≤ 1 ∧ (tookL S f t (3 + u).toNat = true ↔ cntS b1 1 (xs ++ [(f, t)]) u = 1) := by
    intro u hu
    have := h.k1 u hu
    have e := key 1 u (.inr rfl) hu
    simp only [Int.mul_one] at e
    rw [e, cntS_snoc]
    by_cases hq : f = 1 ∧ t = u
    · obtain ⟨rfl, rfl⟩ := hq
      have hn : S (3 + t).toNat = false := by
        have hk : keyT t = true := by rcases hu with rfl | rfl <;> rfl
        rw [hk] at h1
        simpa using (Bool.or_eq_false_iff.1 h1).1
      have : cntS b1 1 xs t ≠ 1 := fun hc => by rw [(this.2).2 hc] at hn; cases hn
      simp; omega
    · rw [if_neg hq]
      have : (decide (f = 1) && decide (t = u)) = false := by simpa using hq
      rw [this]; simpa using h.k1 u hu
  refine ⟨K0, K1, fun u hu => ?_⟩
  have hs := h.sec u hu
  obtain ⟨w0, w1⟩ := want_of u hu
  have kw0 := K0 _ w0
  have kw1 := K1 _ w1
  have mono0 : cntS b0 0 xs (wantI u) = 1 → cntS b0 0 (xs ++ [(f, t)]) (wantI u) = 1 := fun hc => by
    have := kw0.1; rw [cntS_snoc] at this ⊢; split at this <;> (try split) <;> omega
  have mono1 : cntS b1 1 xs (wantR u) = 1 → cntS b1 1 (xs ++ [(f, t)]) (wantR u) = 1 := fun hc => by
    have := kw1.1; rw [cntS_snoc] at this ⊢; split at this <;> (try split) <;> omega
  rw [sec u hu, cntT_snoc]
  by_cases hq : t = u
  · subst hq
    have hsec : isSec t = true := by rcases hu with rfl | rfl | rfl | rfl <;> rfl
    rw [hsec] at h1 h2
    have hn : S (6 + t).toNat = false := by simpa using (Bool.or_eq_false_iff.1 h1).2
    have hz : cntT xs t ≠ 1 := fun hc => by rw [hs.2.1.2 hc] at hn; cases hn
    simp only [Bool.true_and, Bool.or_eq_false_iff, Bool.not_eq_false'] at h2
    have a0 := (h.k0 _ w0).2.1 h2.1
    have a1 := (h.k1 _ w1).2.1 h2.2
    refine ⟨by simp; omega, by simp; omega, fun _ => ⟨mono0 a0, mono1 a1⟩⟩
  · rw [if_neg hq]
    simp only [hq, decide_false, Bool.or_false, Nat.add_zero]
    exact ⟨hs.1, hs.2.1, fun hc => ⟨mono0 (hs.2.2 hc).1, mono1 (hs.2.2 hc).2⟩⟩
theorem Inv.toks {b0 b1 : List Int} {f : Int} (hf : f = 0 ∨ f = 1) : ∀ (ts : List Int) {xs : List (Int × Int)} {S : Nat → Bool}, Inv b0 b1 xs S → (∀ t ∈ ts, 1 ≤ t ∧ t ≤ 7) → (runToks S f ts).1 = 0 → Inv b0 b1 (xs ++ ts.map (fun t => (f, t))) (runToks S f ts).2
  | [], xs, S, h, _, _ => by simpa [runToks] using h
  | t :: r, xs, S, h, ht, hr => by
    unfold runToks at hr ⊢
    split at hr
    · rename_i ho
      rw [if_pos ho]
      have := Inv.toks hf r (h.step hf (ht t (by simp)).1 (ht t (by simp)).2 ho) (fun x hx => ht x (by simp [hx])) hr
      simpa using this
    · rename_i ho; exact absurd hr ho
theorem Inv.lines {b0 b1 : List Int} : ∀ (ls : List Ln) {xs : List (Int × Int)} {S : Nat → Bool}, Inv b0 b1 xs S → (∀ l ∈ ls, (l.1 = 0 ∨ l.1 = 1) ∧ ∀ t ∈ l.2, 1 ≤ t ∧ t ≤ 7) → (runLs S ls).1 = 0 → Inv b0 b1 (xs ++ flat ls) (runLs S ls).2
  | [], xs, S, h, _, _ => by simpa [runLs, flat] using h
  | l :: r, xs, S, h, hl, hr => by
    unfold runLs at hr ⊢
    split at hr
    · rename_i ho
      rw [if_pos ho]
      have h1 := Inv.toks (hl l (by simp)).1 l.2 h (hl l (by simp)).2 ho
      have := Inv.lines r h1 (fun x hx => hl x (by simp [hx])) hr
      simpa [flat] using this
    · rename_i ho; exact absurd hr ho
theorem okB_cases {l : List Int} (h : okB l = true) : l = [] ∨ l = [1] ∨ l = [2] ∨ l = [1, 2] := by
  match l, h with
  | [], _ => simp
  | [x], h => simp [okB] at h; rcases h with rfl | rfl <;> simp
  | [x, y], h => simp [okB] at h; obtain ⟨rfl, rfl⟩ := h; simp
  | _ :: _ :: _ :: _, h => simp [okB] at h
theorem Inv.begun {b0 b1 : List Int} (h0 : okB b0 = true) (h1 : okB b1 = true) : Inv b0 b1 [] (begunL b0 b1) := by
  refine ⟨fun t ht => ?_, fun t ht => ?_, fun t ht => ?_⟩
  · rcases okB_cases h0 with rfl | rfl | rfl | rfl <;> rcases okB_cases h1 with rfl | rfl | rfl | rfl <;> rcases ht with rfl | rfl <;> decide
  · rcases okB_cases h0 with rfl | rfl | rfl | rfl <;> rcases okB_cases h1 with rfl | rfl | rfl | rfl <;> rcases ht with rfl | rfl <;> decide
  · rcases okB_cases h0 with rfl | rfl | rfl | rfl <;> rcases okB_cases h1 with rfl | rfl | rfl | rfl <;> rcases ht with rfl | rfl | rfl | rfl <;> decide
theorem linesOk_fine : ∀ {ls : List Ln} {prev : Option Int} {n : Nat}, linesOk prev n ls = true → ∀ l ∈ ls, (l.1 = 0 ∨ l.1 = 1) ∧ l.2 ≠ [] ∧ ∀ t ∈ l.2, 1 ≤ t ∧ t ≤ 7
  | [], _, _, _, l, h => by cases h
  | x :: r, prev, n, hl, l, h => by
    simp only [linesOk, Bool.and_eq_true, decide_eq_true_eq] at hl
    obtain ⟨⟨⟨h1, h2⟩, _⟩, h4⟩ := hl
    rcases List.mem_cons.1 h with rfl | h
    · simp only [headOk, Bool.and_eq_true, Bool.or_eq_true, beq_iff_eq, bne_iff_ne] at h1
      refine ⟨h1.1.1, fun e => h1.2 (by rw [e]; rfl), fun t ht => ?_⟩
      have := List.all_eq_true.1 h2 t ht
      simpa using this
    · exact linesOk_fine h4 l h
theorem linesOk_alt : ∀ {ls : List Ln} {prev : Option Int} {n : Nat}, linesOk prev n ls = true → ∀ i (h : i + 1 < ls.length), ls[i + 1].1 ≠ ls[i].1
  | [], _, _, _, i, h => by simp at h
  | [x], _, _, _, i, h => by simp at h
  | x :: y :: r, prev, n, hl, i, h => by
    simp only [linesOk, Bool.and_eq_true] at hl
    rcases i with _ | i
    · have := hl.2.1.1.1
      simp only [headOk, Bool.and_eq_true, bne_iff_ne, ne_eq, Option.some.injEq] at this
      exact fun e => this.1.2 e.symm
    · have h4 : linesOk (some x.1) (n + x.2.length) (y :: r) = true := by
        simp only [linesOk, Bool.and_eq_true]
        exact hl.2
      exact linesOk_alt h4 i (by simpa using h)
/-- What holds of every valid pattern. -/
structure Once (b0 b1 : List Int) (ls : List Ln) : Prop where
  key0 : ∀ t, t = 1 ∨ t = 2 → cntS b0 0 (flat ls) t ≤ 1
  key1 : ∀ t, t = 1 ∨ t = 2 → cntS b1 1 (flat ls) t ≤ 1
  sec : ∀ t, t = 3 ∨ t = 4 ∨ t = 5 ∨ t = 6 → cntT (flat ls) t ≤ 1 ∧ (cntT (flat ls) t = 1 → cntS b0 0 (flat ls) (wantI t) = 1 ∧ cntS b1 1 (flat ls) (wantR t) = 1)
  alt : ∀ i (h : i + 1 < ls.length), ls[i + 1].1 ≠ ls[i].1
  se : cntT (flat ls) 5 = 1 → cntT (flat ls) 3 = 1
  es : Go.Proofs.YtbdphdgomcabmaaGreatDoor.oneWay ls = false → cntT (flat ls) 4 = 1 → cntT (flat ls) 3 = 1
  ss : cntT (flat ls) 6 = 1 → cntT (flat ls) 4 = 1 ∧ (Go.Proofs.YtbdphdgomcabmaaGreatDoor.oneWay ls = false → cntT (flat ls) 5 = 1)
theorem once_of {b0 b1 : List Int} {ls : List Ln} (h : checkL b0 b1 ls = 0) : Once b0 b1 ls := by
  unfold checkL at h
  split at h
  · rename_i hs
    simp only [shapedL, Bool.and_eq_true] at hs
    obtain ⟨⟨⟨h0, h1⟩, _⟩, hl⟩ := hs
    split at h
    · rename_i hr
      have hI := Inv.lines ls (Inv.begun h0 h1) (fun l hl' => ⟨(linesOk_fine hl l hl').1, (linesOk_fine hl l hl').2.2⟩) hr
      rw [List.nil_append] at hI
      have hb : ∀ t, t = 3 ∨ t = 4 ∨ t = 5 ∨ t = 6 → ((runLs (begunL b0 b1) ls).2 (6 + t).toNat = true ↔ cntT (flat ls) t = 1) := fun t ht => (hI.sec t ht).2.1
      have h3 := hb 3 (by simp)
      have h4 := hb 4 (by simp)
      have h5 := hb 5 (by simp)
      have h6 := hb 6 (by simp)
      simp only [show ((6 : Int) + 3).toNat = 9 from rfl, show ((6 : Int) + 4).toNat = 10 from rfl, show ((6 : Int) + 5).toNat = 11 from rfl, show ((6 : Int) + 6).toNat = 12 from rfl] at h3 h4 h5 h6
      unfold endL at h
      have hend : safeL (runLs (begunL b0 b1) ls).2 0 = true ∧ (Go.Proofs.YtbdphdgomcabmaaGreatDoor.oneWay ls = false → safeL (runLs (begunL b0 b1) ls).2 1 = true) := by
        cases hs0 : safeL (runLs (begunL b0 b1) ls).2 0 with
        | false => rw [hs0] at h; simp at h
        | true =>
          refine ⟨rfl, fun ho => ?_⟩
          cases hs1 : safeL (runLs (begunL b0 b1) ls).2 1 with
          | false => rw [hs0, ho, hs1] at h; simp at h
          | true => rfl
      obtain ⟨s0, s1⟩ := hend
      generalize (runLs (begunL b0 b1) ls).2 = S at *
      simp only [safeL, if_pos, Bool.and_eq_true, Bool.or_eq_true, Bool.not_eq_true'] at s0
      have s1' : Go.Proofs.YtbdphdgomcabmaaGreatDoor.oneWay ls = false → ((S 10 = false ∨ S 9 = true) ∧ (S 12 = false ∨ S 11 = true)) := fun ho => by
        have := s1 ho
        simp only [safeL, Bool.and_eq_true, Bool.or_eq_true, Bool.not_eq_true', show ¬((1 : Int) = 0) by decide, if_false] at this
        exact this.1
      refine ⟨fun t ht => (hI.k0 t ht).1, fun t ht => (hI.k1 t ht).1, fun t ht => ⟨(hI.sec t ht).1, (hI.sec t ht).2.2⟩, linesOk_alt hl, fun hc => ?_, fun ho hc => ?_, fun hc => ⟨?_, fun ho => ?_⟩⟩
      · have := h5.2 hc
        rcases s0.1.1 with q | q
        · rw [q] at this; cases this
        · exact h3.1 q
      · have := h4.2 hc
        rcases (s1' ho).1 with q | q
        · rw [q] at this; cases this
        · exact h3.1 q
      · have := h6.2 hc
        rcases s0.1.2 with q | q
        · rw [q] at this; cases this
        · exact h4.1 q
      · have := h6.2 hc
        rcases (s1' ho).2 with q | q
        · rw [q] at this; cases this
        · exact h5.1 q
    · rename_i hr; exact absurd h hr
  · cases h
end Go.Proofs.YtbdphdgomcabmaaGreatDoor.Q

namespace Go.Proofs.YtbdphdgomcabmaaGreatDoor.Q

/-- A pattern: its name, what is known ahead, the messages. -/
structure Pn where
  nm : Bt
  b0 : List Int
  b1 : List Int
  ls : List Ln
deriving DecidableEq
def Pn.code (p : Pn) : Nat := checkL p.b0 p.b1 p.ls
def fallB : Bt := [102, 97, 108, 108, 98, 97, 99, 107]
def bef (p : Pn) (f : Int) : List Int := if f = 0 then p.b0 else p.b1
def setBef (p : Pn) (f : Int) (l : List Int) : Pn := if f = 0 then { p with b0 := l } else { p with b1 := l }
/-- The first message is known ahead: as the program says it; 'srt' sorts. -/
def backP (srt : List Int → List Int) (p : Pn) : Option Pn := match p.ls with
  | [] => none
  | l :: r => if okB l.2 && l.2.all (fun t => !(bef p l.1).contains t) then some { setBef p l.1 (srt (bef p l.1 ++ l.2)) with ls := r } else none
/-- As the document says it. -/
def backR (p : Pn) : Option Pn := match p.ls with
  | [] => none
  | l :: r => if okB l.2 then
      (if 1 < (l.2 ++ bef p l.1).count 1 ∨ 1 < (l.2 ++ bef p l.1).countP (· != 1) then none
      else some { setBef p l.1 ((if (l.2 ++ bef p l.1).count 1 = 1 then [1] else []) ++ (if (l.2 ++ bef p l.1).countP (· != 1) = 1 then [2] else [])) with ls := r })
    else none
/-- A psk at a place. -/
def preT (p : Pn) (n : Nat) : Option Pn :=
  if p.ls = [] ∨ p.ls.length < n then none
  else some { p with ls := if n = 0 then p.ls.modify 0 (fun l => (l.1, 7 :: l.2)) else p.ls.modify (n - 1) (fun l => (l.1, l.2 ++ [7])) }
/-- One word; i: its number; 'least': the least number that may stand. -/
def wordP (srt : List Int → List Int) (i least : Nat) (p : Pn) (w : Bt) : Option (Nat × Pn) :=
  if w = fallB then (if 0 < i then none else (backP srt p).map (fun q => (least, q)))
  else match numP w with
    | some n => if n < least then none else (preT p n).map (fun q => (n + 1, q))
    | none => none
def plusW (i : Nat) (w : Bt) : Bt := (if 0 < i then [43] else []) ++ w
def goM (srt : List Int → List Int) : Nat → Nat → Pn → List Bt → Option Pn
  | _, _, p, [] => some p
  | i, least, p, w :: ws => match wordP srt i least p w with
    | none => none
    | some (m, q) => goM srt (i + 1) m { q with nm := q.nm ++ plusW i w } ws
/-- The pattern with its modifiers, and the error's number. -/
def modP (srt : List Int → List Int) (p : Pn) (ws : List Bt) : Option Pn × Nat :=
  if p.code ≠ 0 then (none, p.code) else match goM srt 0 0 p ws with
  | none => (none, 1)
  | some q => if q.code = 0 then (some q, 0) else (none, q.code)
def wordR (i least : Nat) (p : Pn) (w : Bt) : Option (Nat × Pn) :=
  if w = fallB ∧ i = 0 then (backR p).map (fun q => (least, q))
  else match numR w with
    | some n => if n < least then none else (preT p n).map (fun q => (n + 1, q))
    | none => none
def goR : Nat → Nat → Pn → List Bt → Option Pn
  | _, _, p, [] => some p
  | i, least, p, w :: ws => match wordR i least p w with
    | none => none
    | some (m, q) => goR (i + 1) m q ws
def plusAll : Nat → List Bt → Bt
  | _, [] => []
  | i, w :: ws => plusW i w ++ plusAll (i + 1) ws
def modR (p : Pn) (ws : List Bt) : Option Pn × Nat :=
  if p.code ≠ 0 then (none, p.code) else match goR 0 0 p ws with
  | none => (none, 1)
  | some q => if q.code = 0 then (some { q with nm := q.nm ++ plusAll 0 ws }, 0) else (none, q.code)

/-- A sort, as far as it is needed here. -/
structure Srt (srt : List Int → List Int) : Prop where
  s0 : srt [] = []
  s1 : srt [1] = [1]
  s2 : srt [2] = [2]
  s12 : srt [1, 2] = [1, 2]
  s21 : srt [2, 1] = [1, 2]
theorem back_eq {srt : List Int → List Int} (hs : Srt srt) {p : Pn} (h0 : okB p.b0 = true) (h1 : okB p.b1 = true) : backP srt p = backR p := by
  unfold backP backR
  cases hp : p.ls with
  | nil => rfl
  | cons l r =>
    simp only
    cases hk : okB l.2 with
    | false => simp
    | true =>
      have hb : okB (bef p l.1) = true := by unfold bef; split <;> assumption
      generalize hbb : bef p l.1 = b at *
      obtain ⟨f, ts⟩ := l
      simp only at hk hbb ⊢
      rcases okB_cases hk with rfl | rfl | rfl | rfl <;> rcases okB_cases hb with rfl | rfl | rfl | rfl <;> simp [hs.s0, hs.s1, hs.s2, hs.s12, hs.s21]
theorem preT_some {p q : Pn} {n : Nat} (h : preT p n = some q) : q.nm = p.nm ∧ q.b0 = p.b0 ∧ q.b1 = p.b1 ∧ q.ls.length = p.ls.length ∧ n ≤ p.ls.length := by
  unfold preT at h
  split at h
  · cases h
  · rename_i hc
    simp only [Option.some.injEq] at h
    subst h
    refine ⟨rfl, rfl, rfl, ?_, by simp only [not_or] at hc; omega⟩
    simp only
    split <;> rw [List.length_modify]
theorem preT_nm (p : Pn) (n : Nat) (x : Bt) : preT { p with nm := x } n = (preT p n).map (fun q => { q with nm := x }) := by
  unfold preT
  simp only
  split <;> rfl
theorem backR_nm (p : Pn) (x : Bt) : backR { p with nm := x } = (backR p).map (fun q => { q with nm := x }) := by
  obtain ⟨nm, b0, b1, ls⟩ := p
  cases ls with
  | nil => rfl
  | cons l r =>
    have e : ∀ f y z, bef ⟨y, b0, b1, z⟩ f = if f = 0 then b0 else b1 := fun _ _ _ => rfl
    unfold backR
    simp only [e]
    generalize (if l.1 = 0 then b0 else b1) = b
    split
    · split
      · rfl
      · simp only [Option.map_some, Option.some.injEq]
        unfold setBef
        split <;> rfl
    · rfl
theorem wordR_nm (i least : Nat) (p : Pn) (w x : Bt) : wordR i least { p with nm := x } w = (wordR i least p w).map (fun q => (q.1, { q.2 with nm := x })) := by
  unfold wordR
  split
  · rw [backR_nm]; cases backR p <;> rfl
  · split
    · split
      · rfl
      · rw [preT_nm]; cases preT p _ <;> rfl
    · rfl
theorem goR_nm : ∀ (ws : List Bt) (i least : Nat) (p : Pn) (x : Bt), goR i least { p with nm := x } ws = (goR i least p ws).map (fun q => { q with nm := x })
  | [], _, _, _, _ => rfl
  | w :: ws, i, least, p, x => by
    unfold goR
    rw [wordR_nm]
    cases wordR i least p w with
    | none => rfl
    | some q => exact goR_nm ws (i + 1) q.1 q.2 x
theorem goR_name : ∀ (ws : List Bt) (i least : Nat) (p q : Pn), goR i least p ws = some q → q.nm = p.nm
  | [], _, _, p, q, h => by simp [goR] at h; rw [h]
  | w :: ws, i, least, p, q, h => by
    have e := goR_nm (w :: ws) i least p p.nm
    rw [show ({ p with nm := p.nm } : Pn) = p from rfl, h] at e
    simp only [Option.map_some, Option.some.injEq] at e
    rw [e]
/-- What a word comes to, in the two ways; while the first word has not gone by, what is known ahead is of its form. -/
theorem word_eq {srt : List Int → List Int} (hs : Srt srt) {i least : Nat} {p : Pn} {w : Bt} (hl : p.ls.length ≤ 999) (h0 : i = 0 → okB p.b0 = true ∧ okB p.b1 = true) : wordP srt i least p w = wordR i least p w := by
  unfold wordP wordR
  by_cases hw : w = fallB
  · rw [if_pos hw]
    by_cases hi : i = 0
    · rw [if_neg (by omega), if_pos ⟨hw, hi⟩, back_eq hs (h0 hi).1 (h0 hi).2]
    · rw [if_pos (by omega), if_neg (fun h => hi h.2)]
      have : numR w = none := by subst hw; decide
      rw [this]
  · rw [if_neg hw, if_neg (fun h => hw h.1)]
    cases hR : numR w with
    | some n =>
      have := (num_eq (w := w) (n := n) (numR_some hR).2).2 hR
      rw [this]
    | none =>
      cases hP : numP w with
      | none => rfl
      | some n =>
        have hn : ¬ n ≤ 999 := fun h => by rw [(num_eq h).1 hP] at hR; cases hR
        simp only
        split
        · rfl
        · unfold preT
          rw [if_pos (.inr (by omega))]; rfl
theorem backR_len {p q : Pn} (h : backR p = some q) : q.ls.length ≤ p.ls.length := by
  unfold backR at h
  cases hp : p.ls with
  | nil => rw [hp] at h; cases h
  | cons l r =>
    rw [hp] at h
    simp only at h
    split at h
    · split at h
      · cases h
      · simp only [Option.some.injEq] at h
        subst h
        simp
    · cases h
theorem wordR_len {i least m : Nat} {p q : Pn} {w : Bt} (h : wordR i least p w = some (m, q)) : q.ls.length ≤ p.ls.length := by
  unfold wordR at h
  split at h
  · obtain ⟨x, hx, he⟩ := Option.map_eq_some_iff.1 h
    simp only [Prod.mk.injEq] at he
    obtain ⟨_, rfl⟩ := he
    exact backR_len hx
  · split at h
    · split at h
      · cases h
      · obtain ⟨x, hx, he⟩ := Option.map_eq_some_iff.1 h
        simp only [Prod.mk.injEq] at he
        obtain ⟨_, rfl⟩ := he
        exact Nat.le_of_eq (preT_some hx).2.2.2.1
    · cases h
theorem go_eq {srt : List Int → List Int} (hs : Srt srt) : ∀ (ws : List Bt) (i least : Nat) (p : Pn), p.ls.length ≤ 999 → (i = 0 → okB p.b0 = true ∧ okB p.b1 = true) → goM srt i least p ws = (goR i least p ws).map (fun q => { q with nm := q.nm ++ plusAll i ws })
  | [], i, least, p, _, _ => by simp [goM, goR, plusAll]
  | w :: ws, i, least, p, hl, h0 => by
    unfold goM goR
    rw [word_eq hs hl h0]
    cases hw : wordR i least p w with
    | none => rfl
    | some mq =>
      obtain ⟨m, q⟩ := mq
      simp only
      have hql := wordR_len hw
      rw [go_eq hs ws (i + 1) m { q with nm := q.nm ++ plusW i w } (by simp only; omega) (by omega), goR_nm]
      cases hg : goR (i + 1) m q ws with
      | none => rfl
      | some x =>
        have hx := goR_name _ _ _ _ _ hg
        simp only [Option.map_some, Option.some.injEq, plusAll]
        rw [hx, List.append_assoc]
theorem code_shape {p : Pn} (h : p.code = 0) : okB p.b0 = true ∧ okB p.b1 = true ∧ p.ls.length ≤ 24 := by
  unfold Pn.code checkL at h
  split at h
  · rename_i hs
    simp only [shapedL, Bool.and_eq_true] at hs
    refine ⟨hs.1.1.1, hs.1.1.2, ?_⟩
    have : ∀ (ls : List Ln) (prev : Option Int) (n : Nat), linesOk prev n ls = true → n ≤ 24 → n + ls.length ≤ 24 := by
      intro ls
      induction ls with
      | nil => intro _ n _ h; simpa using h
      | cons l r ih =>
        intro prev n hl _
        simp only [linesOk, Bool.and_eq_true, decide_eq_true_eq] at hl
        obtain ⟨⟨⟨h1, h2⟩, h3⟩, h4⟩ := hl
        have hp : l.2.length ≠ 0 := by
          simp only [headOk, Bool.and_eq_true, bne_iff_ne] at h1
          exact h1.2
        have := ih _ _ h4 h3
        simp only [List.length_cons]; omega
    have := this p.ls none 0 hs.2 (by omega)
    omega
  · cases h
theorem mod_eq {srt : List Int → List Int} (hs : Srt srt) (p : Pn) (ws : List Bt) : modP srt p ws = modR p ws := by
  unfold modP modR
  by_cases hc : p.code = 0
  · obtain ⟨a, b, c⟩ := code_shape hc
    rw [if_neg (by simp [hc]), if_neg (by simp [hc]), go_eq hs ws 0 0 p (by omega) (fun _ => ⟨a, b⟩)]
    cases goR 0 0 p ws with
    | none => rfl
    | some q => rfl
  · rw [if_pos hc, if_pos hc]
end Go.Proofs.YtbdphdgomcabmaaGreatDoor.Q

namespace Go.Proofs.YtbdphdgomcabmaaGreatDoor.Q

def digB (c : UInt8) : Bool := decide (48 ≤ c.toNat) && decide (c.toNat ≤ 57)
def upB (c : UInt8) : Bool := digB c || (decide (65 ≤ c.toNat) && decide (c.toNat ≤ 90))
def loB (c : UInt8) : Bool := digB c || (decide (97 ≤ c.toNat) && decide (c.toNat ≤ 122))
/-- No word: empty, or with a digit ahead. -/
def badW : Bt → Bool
  | [] => true
  | c :: _ => digB c
/-- The words from here on, the letters of the present one ahead. -/
def wd : Bt → Bt → Option (List Bt)
  | cur, [] => if badW cur then none else some [cur]
  | cur, c :: t => if loB c then wd (cur ++ [c]) t else if badW cur then none else if c = 43 then (wd [] t).map (cur :: ·) else none
def behind (s : Bt) : Option (List Bt) := match s with
  | [] => some []
  | _ => wd [] s
def headN : Bt := [78, 111, 105, 115, 101, 95]
def tailN : Bt := [95, 50, 53, 53, 49, 57, 95, 67, 104, 97, 67, 104, 97, 80, 111, 108, 121, 95, 66, 76, 65, 75, 69, 50, 115]
/-- A pattern's full name in a protocol's name. -/
def fullN (s : Bt) : Option Bt := if 255 < s.length ∨ s.length < 31 ∨ s.take 6 ≠ headN ∨ s.drop (s.length - 25) ≠ tailN then none else some ((s.drop 6).take (s.length - 31))
/-- The pattern that a full name tells. -/
def patN (full : Bt) : Option Pn := match tableL.find? (fun y => y.1 == full.takeWhile upB) with
  | none => none
  | some y => match behind (full.dropWhile upB) with
    | none => none
    | some [] => some ⟨y.1, y.2.1.1, y.2.1.2, y.2.2.1⟩
    | some (w :: ws) => (modR ⟨y.1, y.2.1.1, y.2.1.2, y.2.2.1⟩ (w :: ws)).1
/-- The pattern of a protocol's name. -/
def parseN (s : Bt) : Option Pn := (fullN s).bind patN

theorem plusAll_pos {i : Nat} (h : 0 < i) : ∀ ws : List Bt, plusAll i ws = plusAll 1 ws
  | [] => rfl
  | w :: ws => by
    have h1 : plusW i w = plusW 1 w := by unfold plusW; rw [if_pos h, if_pos (by decide)]
    rw [plusAll, plusAll, h1, plusAll_pos (by omega : 0 < i + 1), plusAll_pos (by omega : 0 < 1 + 1)]
theorem plusAll_cons (w : Bt) (ws : List Bt) : plusAll 0 (w :: ws) = w ++ plusAll 1 ws := by
  rw [plusAll]; rfl
theorem plusAll_one (w : Bt) (ws : List Bt) : plusAll 1 (w :: ws) = 43 :: (w ++ plusAll 1 ws) := by
  rw [plusAll, plusAll_pos (by omega)]; rfl
theorem wd_join : ∀ (s cur : Bt) (ws : List Bt), wd cur s = some ws → ∃ w r, ws = w :: r ∧ w ++ plusAll 1 r = cur ++ s
  | [], cur, ws, h => by
    unfold wd at h
    split at h
    · cases h
    · cases h; exact ⟨cur, [], rfl, by simp [plusAll]⟩
  | c :: t, cur, ws, h => by
    unfold wd at h
    split at h
    · obtain ⟨w, r, e, h2⟩ := wd_join t _ ws h
      exact ⟨w, r, e, by rw [h2]; simp⟩
    · split at h
      · cases h
      · split at h
        · rename_i hc
          subst hc
          cases hq : wd [] t with
          | none => rw [hq] at h; cases h
          | some ws' =>
            rw [hq] at h
            simp only [Option.map_some, Option.some.injEq] at h
            subst h
            obtain ⟨w, r, rfl, h2⟩ := wd_join t _ ws' hq
            exact ⟨cur, w :: r, rfl, by rw [plusAll_one, h2]; simp⟩
        · cases h
theorem behind_join {s : Bt} {ws : List Bt} (h : behind s = some ws) : plusAll 0 ws = s := by
  cases s with
  | nil => cases h; rfl
  | cons c t =>
    obtain ⟨w, r, rfl, h2⟩ := wd_join _ _ _ (show wd [] (c :: t) = some ws from h)
    rw [plusAll_cons, h2]; rfl
/-- What stands in a protocol's name is again found in it. -/
theorem fullN_of {full : Bt} (h : full.length ≤ 224) : fullN (headN ++ full ++ tailN) = some full := by
  have hh : headN.length = 6 := rfl
  have ht : tailN.length = 25 := rfl
  have hl : (headN ++ full ++ tailN).length = full.length + 31 := by simp only [List.length_append]; omega
  unfold fullN
  rw [if_neg]
  · rw [hl, List.append_assoc, List.drop_append, hh]
    simp only [Nat.sub_self, List.drop_zero]
    rw [List.drop_of_length_le (by omega), List.nil_append, show full.length + 31 - 31 = full.length by omega, List.take_left]
  · rw [hl]
    rintro (h1 | h1 | h1 | h1)
    · omega
    · omega
    · apply h1
      rw [List.append_assoc, show (6 : Nat) = headN.length from rfl, List.take_left]
    · apply h1
      rw [show full.length + 31 - 25 = (headN ++ full).length by simp only [List.length_append]; omega, List.drop_left]
theorem fullN_long {full : Bt} (h : 224 < full.length) : fullN (headN ++ full ++ tailN) = none := by
  have hh : headN.length = 6 := rfl
  have ht : tailN.length = 25 := rfl
  unfold fullN
  rw [if_pos]
  refine .inl ?_
  simp only [List.length_append]; omega
theorem modR_nm {p q : Pn} {ws : List Bt} {c : Nat} (h : modR p ws = (some q, c)) : q.nm = p.nm ++ plusAll 0 ws ∧ q.code = 0 := by
  unfold modR at h
  split at h
  · cases h
  · split at h
    · cases h
    · rename_i r hr
      split at h
      · rename_i hc
        cases h
        have h5 : goR 0 0 p ws = (goR 0 0 p ws).map (fun q => { q with nm := p.nm }) := goR_nm ws 0 0 p p.nm
        rw [hr] at h5
        rw [Option.map_some, Option.some.injEq] at h5
        have h6 : r.nm = ({ nm := p.nm, b0 := r.b0, b1 := r.b1, ls := r.ls } : Pn).nm := congrArg Pn.nm h5
        exact ⟨by show r.nm ++ _ = _; rw [h6], hc⟩
      · cases h
/-- The pattern bears that name. -/
theorem patN_nm {full : Bt} {q : Pn} (h : patN full = some q) : q.nm = full := by
  unfold patN at h
  split at h
  · cases h
  · rename_i y hy
    have h1 : y.1 = full.takeWhile upB := by have := List.find?_some hy; simpa using this
    have h2 := List.takeWhile_append_dropWhile (p := upB) (l := full)
    split at h
    · cases h
    · rename_i hb
      cases h
      have h3 : full.dropWhile upB = [] := (behind_join hb).symm
      rw [h3, List.append_nil] at h2
      show y.1 = full
      rw [h1, h2]
    · rename_i w ws hb
      have h3 := behind_join hb
      cases hm : modR ⟨y.1, y.2.1.1, y.2.1.2, y.2.2.1⟩ (w :: ws) with
      | mk a c =>
        rw [hm] at h
        cases h
        rw [(modR_nm hm).1, h3]
        show y.1 ++ _ = _
        rw [h1, h2]
/-- A word as it stands in a name. -/
def fineW (w : Bt) : Bool := !badW w && w.all loB
theorem wd_words : ∀ (r : List Bt), (∀ x ∈ r, fineW x = true) → ∀ (w cur : Bt), w.all loB = true → badW (cur ++ w) = false → wd cur (w ++ plusAll 1 r) = some ((cur ++ w) :: r) ∧ wd cur (w ++ plusAll 1 r ++ [43]) = none
  | r, hr, c :: w, cur, hw, hb => by
    simp only [List.all_cons, Bool.and_eq_true] at hw
    have ih := wd_words r hr w (cur ++ [c]) hw.2 (by simpa using hb)
    constructor
    · show wd cur (c :: (w ++ plusAll 1 r)) = _
      unfold wd
      rw [if_pos hw.1, ih.1]; simp
    · show wd cur (c :: (w ++ plusAll 1 r ++ [43])) = _
      unfold wd
      rw [if_pos hw.1, ih.2]
  | [], _, [], cur, _, hb => by
    rw [List.append_nil] at hb ⊢
    constructor
    · show wd cur [] = _
      unfold wd
      rw [if_neg (by simp [hb])]
    · show wd cur [43] = _
      unfold wd
      rw [if_neg (by decide), if_neg (by simp [hb]), if_pos rfl]
      rfl
  | x :: r, hr, [], cur, _, hb => by
    have hx := hr x (by simp)
    unfold fineW at hx
    simp only [Bool.and_eq_true, Bool.not_eq_true'] at hx
    have ih := wd_words r (fun y hy => hr y (by simp [hy])) x [] hx.2 (by simpa using hx.1)
    rw [List.append_nil] at hb ⊢
    constructor
    · rw [List.nil_append, plusAll_one]
      unfold wd
      rw [if_neg (by decide), if_neg (by simp [hb]), if_pos rfl, ih.1]
      rfl
    · rw [List.nil_append, plusAll_one, List.cons_append]
      unfold wd
      rw [if_neg (by decide), if_neg (by simp [hb]), if_pos rfl, ih.2]
      rfl
termination_by r _ w => (r.length, w.length)
theorem fine_cons {w : Bt} (h : fineW w = true) : ∃ c t, w = c :: t ∧ upB c = false ∧ w.all loB = true ∧ badW w = false := by
  unfold fineW at h
  simp only [Bool.and_eq_true, Bool.not_eq_true'] at h
  cases w with
  | nil => exact absurd h.1 (by decide)
  | cons c t =>
    refine ⟨c, t, rfl, ?_, h.2, h.1⟩
    have h1 : digB c = false := h.1
    have h2 : loB c = true := by have := h.2; simp only [List.all_cons, Bool.and_eq_true] at this; exact this.1
    unfold loB at h2
    unfold upB
    rw [h1] at h2 ⊢
    simp only [Bool.false_or, Bool.and_eq_true, decide_eq_true_eq] at h2
    simp only [Bool.false_or, Bool.and_eq_false_iff, decide_eq_false_iff_not]
    omega
theorem behind_words {ws : List Bt} (h : ∀ w ∈ ws, fineW w = true) (hn : ws ≠ []) : behind (plusAll 0 ws) = some ws ∧ behind (plusAll 0 ws ++ [43]) = none := by
  cases ws with
  | nil => exact absurd rfl hn
  | cons w r =>
    obtain ⟨c, t, rfl, _, hl, hb⟩ := fine_cons (h w (by simp))
    have := wd_words r (fun x hx => h x (by simp [hx])) (c :: t) [] hl (by simpa using hb)
    rw [plusAll_cons]
    exact this
theorem take_base {b r : Bt} (hb : b.all upB = true) (hr : r = [] ∨ ∃ c t, r = c :: t ∧ upB c = false) : (b ++ r).takeWhile upB = b ∧ (b ++ r).dropWhile upB = r := by
  induction b with
  | nil =>
    rcases hr with rfl | ⟨c, t, rfl, hc⟩
    · exact ⟨rfl, rfl⟩
    · simp [hc]
  | cons c b ih =>
    simp only [List.all_cons, Bool.and_eq_true] at hb
    have := ih hb.2
    simp [hb.1, this.1, this.2]
theorem plus_head {ws : List Bt} (h : ∀ w ∈ ws, fineW w = true) (hn : ws ≠ []) : ∃ c t, plusAll 0 ws = c :: t ∧ upB c = false := by
  cases ws with
  | nil => exact absurd rfl hn
  | cons w r =>
    obtain ⟨c, t, rfl, hc, _, _⟩ := fine_cons (h w (by simp))
    exact ⟨c, t ++ plusAll 1 r, by rw [plusAll_cons]; rfl, hc⟩
/-- What a base with words tells. -/
theorem patN_words {b : Bt} {ws : List Bt} (hb : b.all upB = true) (h : ∀ w ∈ ws, fineW w = true) (hn : ws ≠ []) :
    patN (b ++ plusAll 0 ws) = (match tableL.find? (fun y => y.1 == b) with | none => none | some y => (modR ⟨y.1, y.2.1.1, y.2.1.2, y.2.2.1⟩ ws).1) ∧ patN (b ++ plusAll 0 ws ++ [43]) = none := by
  obtain ⟨c, t, e, hc⟩ := plus_head h hn
  have h1 := take_base (r := plusAll 0 ws) hb (.inr ⟨c, t, e, hc⟩)
  have h2 := take_base (r := plusAll 0 ws ++ [43]) hb (.inr ⟨c, t ++ [43], by rw [e]; rfl, hc⟩)
  have h3 := behind_words h hn
  constructor
  · unfold patN
    rw [h1.1, h1.2, h3.1]
    cases tableL.find? (fun y => y.1 == b) with
    | none => rfl
    | some y => cases ws with
      | nil => exact absurd rfl hn
      | cons w r => rfl
  · unfold patN
    rw [List.append_assoc, h2.1, h2.2, h3.2]
    cases tableL.find? (fun y => y.1 == b) <;> rfl
theorem patN_plain {b : Bt} (hb : b.all upB = true) : patN b = (tableL.find? (fun y => y.1 == b)).map (fun y => ⟨y.1, y.2.1.1, y.2.1.2, y.2.2.1⟩) := by
  have h1 := take_base (r := []) hb (.inl rfl)
  rw [List.append_nil] at h1
  unfold patN
  rw [h1.1, h1.2]
  cases tableL.find? (fun y => y.1 == b) <;> rfl
end Go.Proofs.YtbdphdgomcabmaaGreatDoor.Q

namespace Go.Proofs.YtbdphdgomcabmaaGreatDoor
open Go.RowKit

abbrev u8 (c : UInt8) : Value := .int .u8 ((c.toNat : Nat) : Int)
theorem digit_any (w : World) (c : UInt8) : Calls Tryz.prog 45 #[u8 c] w fun e w' => e = .returned (.bool (Q.digB c)) ∧ w = w' := by
  unfold Q.digB u8
  generalize c.toNat = n
  go_enter Tryz.func45, Tryz.ntmps45
  by_cases h1 : 48 ≤ n
  · by_cases h2 : n ≤ 57
    · have h3 : (48 : Int) ≤ (n : Nat) := by omega
      have h4 : ((n : Nat) : Int) ≤ 57 := by omega
      go_wp2_with fail
      go_ret
      exact ⟨by simp [h1, h2], rfl⟩
    · have h3 : (48 : Int) ≤ (n : Nat) := by omega
      have h4 : ¬ ((n : Nat) : Int) ≤ 57 := by omega
      go_wp2_with fail
      go_ret
      exact ⟨by simp [], rfl⟩
  · have h3 : ¬ (48 : Int) ≤ (n : Nat) := by omega
    go_wp2_with fail
    go_ret
    exact ⟨by simp [], rfl⟩
theorem upper_any (w : World) (c : UInt8) : Calls Tryz.prog 26 #[u8 c] w fun e w' => e = .returned (.bool (Q.upB c)) ∧ w = w' := by
  unfold Q.upB Q.digB u8
  generalize c.toNat = n
  go_enter Tryz.func26, Tryz.ntmps26
  by_cases h1 : 65 ≤ n
  · by_cases h2 : n ≤ 90
    · have h3 : (65 : Int) ≤ (n : Nat) := by omega
      have h4 : ((n : Nat) : Int) ≤ 90 := by omega
      go_wp2_with fail
      go_ret
      exact ⟨by simp [h1, h2], rfl⟩
    · have h3 : (65 : Int) ≤ (n : Nat) := by omega
      have h4 : ¬ ((n : Nat) : Int) ≤ 90 := by omega
      have h5 : (48 : Int) ≤ (n : Nat) := by omega
      have h6 : ¬ ((n : Nat) : Int) ≤ 57 := by omega
      have h7 : ¬ n ≤ 57 := by omega
      go_wp2_with fail
      go_ret
      exact ⟨by simp [], rfl⟩
  · have h3 : ¬ (65 : Int) ≤ (n : Nat) := by omega
    by_cases h5 : 48 ≤ n
    · by_cases h6 : n ≤ 57
      · have h7 : (48 : Int) ≤ (n : Nat) := by omega
        have h8 : ((n : Nat) : Int) ≤ 57 := by omega
        go_wp2_with fail
        go_ret
        exact ⟨by simp [], rfl⟩
      · have h7 : (48 : Int) ≤ (n : Nat) := by omega
        have h8 : ¬ ((n : Nat) : Int) ≤ 57 := by omega
        go_wp2_with fail
        go_ret
        exact ⟨by simp [], rfl⟩
    · have h7 : ¬ (48 : Int) ≤ (n : Nat) := by omega
      go_wp2_with fail
      go_ret
      exact ⟨by simp [], rfl⟩
theorem lower_any (w : World) (c : UInt8) : Calls Tryz.prog 47 #[u8 c] w fun e w' => e = .returned (.bool (Q.loB c)) ∧ w = w' := by
  unfold Q.loB Q.digB u8
  generalize c.toNat = n
  go_enter Tryz.func47, Tryz.ntmps47
  by_cases h1 : 97 ≤ n
  · by_cases h2 : n ≤ 122
    · have h3 : (97 : Int) ≤ (n : Nat) := by omega
      have h4 : ((n : Nat) : Int) ≤ 122 := by omega
      go_wp2_with fail
      go_ret
      exact ⟨by simp [h1, h2], rfl⟩
    · have h3 : (97 : Int) ≤ (n : Nat) := by omega
      have h4 : ¬ ((n : Nat) : Int) ≤ 122 := by omega
      have h5 : (48 : Int) ≤ (n : Nat) := by omega
      have h6 : ¬ ((n : Nat) : Int) ≤ 57 := by omega
      have h7 : ¬ n ≤ 57 := by omega
      go_wp2_with fail
      go_ret
      exact ⟨by simp [], rfl⟩
  · have h3 : ¬ (97 : Int) ≤ (n : Nat) := by omega
    by_cases h5 : 48 ≤ n
    · by_cases h6 : n ≤ 57
      · have h7 : (48 : Int) ≤ (n : Nat) := by omega
        have h8 : ((n : Nat) : Int) ≤ 57 := by omega
        go_wp2_with fail
        go_ret
        exact ⟨by simp [], rfl⟩
      · have h7 : (48 : Int) ≤ (n : Nat) := by omega
        have h8 : ¬ ((n : Nat) : Int) ≤ 57 := by omega
        go_wp2_with fail
        go_ret
        exact ⟨by simp [], rfl⟩
    · have h7 : ¬ (48 : Int) ≤ (n : Nat) := by omega
      go_wp2_with fail
      go_ret
      exact ⟨by simp [], rfl⟩
end Go.Proofs.YtbdphdgomcabmaaGreatDoor

namespace Go.Proofs.YtbdphdgomcabmaaGreatDoor
open Go.RowKit

/-- A row: its elements' type, how many cells each has, the slice's parts, what it holds. -/
structure Rw where
  e : TypeId
  sz : Nat
  t : Tv
  xs : List Value
def Rw.own (r : Rw) (w : World) (B : Nat) : Prop := Own w B r.e r.sz r.t.ao r.t.n r.t.c r.xs
def Rw.bl (r : Rw) : List Nat := blkL r.t.ao
def apartR (a b : Rw) : Prop := ∀ x, x ∈ a.bl → x ∈ b.bl → False
structure Sep (w : World) (B : Nat) (rs : List Rw) : Prop where
  own : ∀ r ∈ rs, r.own w B
  ap : rs.Pairwise apartR

theorem Rw.lt {r : Rw} {w : World} {B : Nat} (h : r.own w B) {x : Nat} (hx : x ∈ r.bl) : B ≤ x ∧ x < w.heap.size := Own.lt h x (mem_blkL.1 hx)
theorem Sep.nil (w : World) (B : Nat) : Sep w B [] := ⟨by simp, List.Pairwise.nil⟩
theorem Sep.kp {w w' : World} {B : Nat} {rs : List Rw} (h : Sep w B rs) (k : Kp w w') : Sep w' B rs := ⟨fun r hr => (h.own r hr).keep k, h.ap⟩
/-- What has changed lies below, or is new. -/
theorem Sep.fr {X : List Nat} {w w' : World} {B : Nat} {rs : List Rw} (h : Sep w B rs) (k : Fr X w w') (hX : ∀ x ∈ X, x < B ∨ w.heap.size ≤ x) : Sep w' B rs :=
  ⟨fun r hr => k.own (h.own r hr) (fun x hx hq => by have := Rw.lt (h.own r hr) hx; have := hX x hq; omega), h.ap⟩
theorem Sep.base {w : World} {B B' : Nat} {rs : List Rw} (h : Sep w B rs) (hB : B' ≤ B) : Sep w B' rs := ⟨fun r hr => Own.mono (h.own r hr) (fun k hk => Nat.le_trans hB (Own.lt (h.own r hr) k hk).1), h.ap⟩
theorem Sep.perm {w : World} {B : Nat} {rs rs' : List Rw} (h : Sep w B rs) (p : rs.Perm rs') : Sep w B rs' :=
  ⟨fun r hr => h.own r (p.mem_iff.2 hr), (p.pairwise_iff (fun {_a _b} hab x hx hy => hab x hy hx)).1 h.ap⟩
theorem Sep.cons {w : World} {B : Nat} {r : Rw} {rs : List Rw} (h : Sep w B rs) (hr : r.own w B) (ha : ∀ x ∈ r.bl, ∀ s ∈ rs, x ∉ s.bl) : Sep w B (r :: rs) :=
  ⟨fun s hs => by rcases List.mem_cons.1 hs with rfl | hs; exact hr; exact h.own s hs, List.pairwise_cons.2 ⟨fun s hs x hx hy => ha x hx s hs hy, h.ap⟩⟩
/-- A new row. -/
theorem Sep.new {w w' : World} {B : Nat} {r : Rw} {rs : List Rw} (h : Sep w B rs) (k : Kp w w') (hr : r.own w' w.heap.size) (hB : B ≤ w.heap.size) : Sep w' B (r :: rs) :=
  (h.kp k).cons (Own.mono hr (fun x hx => Nat.le_trans hB (Own.lt hr x hx).1)) (fun x hx s hs hy => by have := (Rw.lt hr hx).1; have := (Rw.lt (h.own s hs) hy).2; omega)
theorem Sep.tail {w : World} {B : Nat} {r : Rw} {rs : List Rw} (h : Sep w B (r :: rs)) : Sep w B rs := ⟨fun s hs => h.own s (List.mem_cons_of_mem _ hs), (List.pairwise_cons.1 h.ap).2⟩
theorem Sep.sub {w : World} {B : Nat} {rs rs' : List Rw} (h : Sep w B rs) (p : rs'.Sublist rs) : Sep w B rs' := ⟨fun r hr => h.own r (p.subset hr), h.ap.sublist p⟩
theorem Sep.head {w : World} {B : Nat} {r : Rw} {rs : List Rw} (h : Sep w B (r :: rs)) : r.own w B := h.own r (by simp)
/-- The first row has changed, and nothing else that lay there. -/
theorem Sep.upd {w w' : World} {B : Nat} {r r' : Rw} {rs : List Rw} (h : Sep w B (r :: rs)) (f : Fr r.bl w w') (hr : r'.own w' B) (hb : ∀ x ∈ r'.bl, x ∈ r.bl ∨ w.heap.size ≤ x) : Sep w' B (r' :: rs) := by
  have hp := List.pairwise_cons.1 h.ap
  have ht : Sep w' B rs := ⟨fun s hs => f.own (h.own s (List.mem_cons_of_mem _ hs)) (fun x hx hq => hp.1 s hs x hq hx), hp.2⟩
  refine ht.cons hr (fun x hx s hs hy => ?_)
  rcases hb x hx with q | q
  · exact hp.1 s hs x q hy
  · have := (Rw.lt (h.own s (List.mem_cons_of_mem _ hs)) hy).2
    omega
theorem Sep.app {w w' : World} {B : Nat} {e : TypeId} {sz : Nat} {t : Tv} {xs zs : List Value} {rs : List Rw} {m N : Nat} {ao' : Option Addr} {cap' : Nat} (h : Sep w B (⟨e, sz, t, xs⟩ :: rs)) (a : Appd w w' B e sz t.ao t.c m N zs ao' cap') : Sep w' B (⟨e, sz, ⟨ao', N, cap'⟩, zs⟩ :: rs) :=
  h.upd a.fr a.own (fun x hx => by
    rcases a.fresh x (mem_blkL.1 hx) with q | q
    · exact .inl (mem_blkL.2 q)
    · exact .inr (by omega))
theorem Sep.store {w : World} {B : Nat} {e : TypeId} {sz g n c : Nat} {xs : List Value} {rs : List Rw} (h : Sep w B (⟨e, sz, ⟨some ⟨g, 0, none⟩, n, c⟩, xs⟩ :: rs)) (j : Nat) (u : Value) : Sep (w.setCell ⟨g, j, none⟩ u) B (⟨e, sz, ⟨some ⟨g, 0, none⟩, n, c⟩, xs.set j u⟩ :: rs) :=
  h.upd ((Fr.set w ⟨g, j, none⟩ u).mono (fun x hx => by simp at hx; subst hx; exact mem_blkL_some.2 rfl)) (Own.store h.head j u) (fun x hx => .inl hx)

/-- The rows of a pattern's messages. -/
def rowT (t : Tv) (l : Ln) : Rw := ⟨3, 1, t, l.2.map iv⟩
def rowsT : List Tv → List Ln → List Rw
  | t :: ts, l :: ls => rowT t l :: rowsT ts ls
  | _, _ => []
def rowsP (t0 t1 tl : Tv) (ts : List Tv) (b0 b1 : List Int) (ls : List Ln) : List Rw := ⟨3, 1, t0, b0.map iv⟩ :: ⟨3, 1, t1, b1.map iv⟩ :: ⟨45, 2, tl, lnc ls ts⟩ :: rowsT ts ls
theorem rowsT_append : ∀ (ts us : List Tv) (ls ms : List Ln), ts.length = ls.length → rowsT (ts ++ us) (ls ++ ms) = rowsT ts ls ++ rowsT us ms
  | [], us, [], ms, _ => rfl
  | t :: ts, us, l :: ls, ms, h => by
    simp only [List.length_cons] at h
    simp only [List.cons_append, rowsT]
    rw [rowsT_append ts us ls ms (by omega)]
theorem rowsT_length : ∀ {ts : List Tv} {ls : List Ln}, ts.length = ls.length → (rowsT ts ls).length = ls.length
  | [], [], _ => rfl
  | t :: ts, l :: ls, h => by
    simp only [List.length_cons] at h
    simp only [rowsT, List.length_cons]
    rw [rowsT_length (by omega)]
theorem rowsT_get : ∀ {ts : List Tv} {ls : List Ln} (h : ts.length = ls.length) (j : Nat) (hj : j < ls.length), (rowsT ts ls)[j]? = some (rowT (ts[j]'(by omega)) ls[j])
  | [], [], _, _, hj => absurd hj (by simp)
  | t :: ts, l :: ls, h, 0, _ => rfl
  | t :: ts, l :: ls, h, j + 1, hj => by
    simp only [List.length_cons] at h hj
    have := rowsT_get (ts := ts) (ls := ls) (by omega) j (by omega)
    simpa [rowsT] using this
theorem rowsT_mem {ts : List Tv} {ls : List Ln} (h : ts.length = ls.length) {r : Rw} (hr : r ∈ rowsT ts ls) : ∃ (j : Nat) (t : Tv) (l : Ln), ts[j]? = some t ∧ ls[j]? = some l ∧ r = rowT t l := by
  obtain ⟨j, hj, rfl⟩ := List.getElem_of_mem hr
  rw [rowsT_length h] at hj
  refine ⟨j, _, _, List.getElem?_eq_getElem (by omega), List.getElem?_eq_getElem hj, ?_⟩
  have := rowsT_get h j hj
  rw [List.getElem?_eq_getElem (by rw [rowsT_length h]; exact hj)] at this
  simpa using this
/-- The rows of a pattern, each in its own place among the list's others. -/
theorem rowsT_split {ts : List Tv} {ls : List Ln} (h : ts.length = ls.length) (j : Nat) (hj : j < ls.length) : rowsT ts ls = rowsT (ts.take j) (ls.take j) ++ rowT (ts[j]'(by omega)) ls[j] :: rowsT (ts.drop (j + 1)) (ls.drop (j + 1)) := by
  have e1 : ts = ts.take j ++ ts[j]'(by omega) :: ts.drop (j + 1) := by rw [← List.drop_eq_getElem_cons (by omega), List.take_append_drop]
  have e2 : ls = ls.take j ++ ls[j] :: ls.drop (j + 1) := by rw [← List.drop_eq_getElem_cons hj, List.take_append_drop]
  rw [congr (congrArg rowsT e1) e2, rowsT_append _ _ _ _ (by rw [List.length_take, List.length_take]; omega)]
  rfl
theorem perm_front {α : Type} (xs ys : List α) (r : α) : (xs ++ r :: ys).Perm (r :: (xs ++ ys)) := List.perm_middle
/-- A pattern of the call's own, as rows. -/
theorem PatO.sep {w : World} {B : Nat} {t0 t1 tl : Tv} {ts : List Tv} {b0 b1 : List Int} {ls : List Ln} (h : PatO w B t0 t1 tl ts b0 b1 ls) : Sep w B (rowsP t0 t1 tl ts b0 b1 ls) := by
  have hget : ∀ i r, (rowsP t0 t1 tl ts b0 b1 ls)[i]? = some r → r.t = (t0 :: t1 :: tl :: ts).getD i nilT ∧ r.own w B := fun i r hr => by
    rcases i with _ | _ | _ | i
    · simp [rowsP] at hr; subst hr; exact ⟨rfl, h.o0⟩
    · simp [rowsP] at hr; subst hr; exact ⟨rfl, h.o1⟩
    · simp [rowsP] at hr; subst hr; exact ⟨rfl, h.ol⟩
    · simp only [rowsP, List.getElem?_cons_succ] at hr
      have hi : i < ls.length := by
        have := (List.getElem?_eq_some_iff.1 hr).1
        rwa [rowsT_length h.len] at this
      rw [rowsT_get h.len i hi] at hr
      simp only [Option.some.injEq] at hr
      subst hr
      have hti : i < ts.length := by rw [h.len]; exact hi
      refine ⟨?_, h.ot i _ _ (List.getElem?_eq_getElem hti) (List.getElem?_eq_getElem hi)⟩
      simp only [List.getD_cons_succ]
      rw [getD_lt _ _ hti]; rfl
  refine ⟨fun r hr => ?_, ?_⟩
  · obtain ⟨i, hi, rfl⟩ := List.getElem_of_mem hr
    exact (hget i _ (List.getElem?_eq_getElem hi)).2
  · rw [List.pairwise_iff_getElem]
    intro i j hi hj hij x hx hy
    have e1 := (hget i _ (List.getElem?_eq_getElem hi)).1
    have e2 := (hget j _ (List.getElem?_eq_getElem hj)).1
    unfold Rw.bl at hx hy
    rw [e1] at hx
    rw [e2] at hy
    have := h.dj i j x hx hy
    omega
/-- What is read of a pattern that lies in rows. -/
theorem sep_lns {w : World} {B : Nat} {tl : Tv} {ts : List Tv} {ls : List Ln} (hl : ts.length = ls.length) (ol : Own w B 45 2 tl.ao tl.n tl.c (lnc ls ts)) (ot : ∀ r ∈ rowsT ts ls, r.own w B) (hn : ls.length ≤ 140737488351232) (ht : ∀ l ∈ ls, l.2.length ≤ 140737488351232) : Lns w tl.ao tl.n ls := by
  have h2 := ol.1
  rw [lnc_length hl] at h2
  have hnl : tl.n = ls.length := by omega
  rw [hnl]
  refine ⟨rfl, hn, fun j hj => ?_⟩
  obtain ⟨g0, g1⟩ := lnc_get hl j hj
  obtain ⟨b, off, e0, c0⟩ := ol.cs (j * 2) _ g0
  obtain ⟨b', off', e1, c1⟩ := ol.cs (j * 2 + 1) _ g1
  rw [e0] at e1
  simp only [Option.some.injEq, Addr.mk.injEq, and_true] at e1
  obtain ⟨rfl, rfl⟩ := e1
  have hr := ot _ (List.mem_of_getElem? (rowsT_get hl j hj))
  have hi : Is w (ts[j]'(by omega)).ao (ts[j]'(by omega)).n ls[j].2 := Own.is hr
  have hlt := ht _ (List.getElem_mem hj)
  exact ⟨b, off, _, _, _, e0, c0, by rw [Nat.add_assoc]; exact c1, hi, by rw [← hi.1]; exact hlt⟩
theorem Sep.pat {w : World} {B : Nat} {t0 t1 tl : Tv} {ts : List Tv} {b0 b1 : List Int} {ls : List Ln} (hl : ts.length = ls.length) (h : Sep w B (rowsP t0 t1 tl ts b0 b1 ls)) (hn : ls.length ≤ 140737488351232) (ht : ∀ l ∈ ls, l.2.length ≤ 140737488351232) : PatI w t0.ao t1.ao tl.ao t0.n t1.n tl.n b0 b1 ls :=
  ⟨Own.is (h.own ⟨3, 1, t0, b0.map iv⟩ (by simp [rowsP])), Own.is (h.own ⟨3, 1, t1, b1.map iv⟩ (by simp [rowsP])), sep_lns hl (h.own ⟨45, 2, tl, lnc ls ts⟩ (by simp [rowsP])) (fun r hr => h.own r (by simp [rowsP, hr])) hn ht⟩
end Go.Proofs.YtbdphdgomcabmaaGreatDoor

namespace Go.Proofs.YtbdphdgomcabmaaGreatDoor
open Go.RowKit

def badC : List PanicEntry := [{ v := .iface 124 (.agg #[]), recovered := false }]
def LineV (w w' : World) (l : Ln) (e : Ending) : Prop := ∃ t : Tv, e = .returned (.agg #[iv l.1, tvv t]) ∧ Own w' w.heap.size 3 1 t.ao t.n t.c (l.2.map iv)
/-- What reading a row of a side leaves. -/
def LinePost (w : World) (s : Q.Bt) (e : Ending) (w' : World) : Prop := Kp w w' ∧ match Q.lineP s with
  | some l => LineV w w' l e
  | none => e = badE
theorem wordsT_take {ws : List Q.Bt} : ∀ {k : Nat} {x : Q.Bt} {ts : List Int} {t : Int}, ws[k]? = some x → Q.wordsT (ws.take k) = some ts → Q.wordT x = some t → Q.wordsT (ws.take (k + 1)) = some (ts ++ [t]) := by
  induction ws with
  | nil => intro k x ts t h; simp at h
  | cons a r ih =>
    intro k x ts t h h1 h2
    rcases k with _ | k
    · simp at h
      subst h
      simp only [List.take_zero, Q.wordsT, Option.some.injEq] at h1
      subst h1
      simp [Q.wordsT, h2]
    · simp only [List.getElem?_cons_succ] at h
      simp only [List.take_succ_cons, Q.wordsT] at h1 ⊢
      cases ha : Q.wordT a with
      | none => rw [ha] at h1; cases h1
      | some u =>
        rw [ha] at h1
        cases hr : Q.wordsT (r.take k) with
        | none => rw [hr] at h1; cases h1
        | some l =>
          rw [hr] at h1
          simp only [Option.some.injEq] at h1
          subst h1
          rw [ih h hr h2]
          rfl
theorem wordsT_bad {ws : List Q.Bt} : ∀ {k : Nat} {x : Q.Bt}, ws[k]? = some x → Q.wordT x = none → Q.wordsT ws = none := by
  induction ws with
  | nil => intro k x h; simp at h
  | cons a r ih =>
    intro k x h h2
    rcases k with _ | k
    · simp at h
      subst h
      simp [Q.wordsT, h2]
    · simp only [List.getElem?_cons_succ] at h
      simp only [Q.wordsT, ih h h2]
      cases Q.wordT a <;> rfl
/-- The pieces of a row. -/
def pcs (s : ByteArray) : List ByteArray := Lib.splitB ⟨#[44, 32]⟩ 0 (Lib.countB s ⟨#[44, 32]⟩) s
theorem pcs_data (s : ByteArray) : (pcs s).map (·.data.toList) = Lib.split s.data.toList Q.comma := by
  unfold pcs
  rw [Lib.splitB_data]
  rfl
theorem pcs_length (s : ByteArray) : (pcs s).length = Lib.countB s ⟨#[44, 32]⟩ + 1 := Lib.splitB_all _ (by decide) 0 _ s rfl
/-- A block's two cells, which may be written. -/
structure Two2 (w : World) (b : Nat) (x y : Value) : Prop where
  c0 : w.cell? ⟨b, 0, none⟩ = some x
  c1 : w.cell? ⟨b, 1, none⟩ = some y
  f0 : w.frozen? ⟨b, 0, none⟩ = false
  f1 : w.frozen? ⟨b, 1, none⟩ = false
theorem Two2.new (w : World) (x y : Value) (t : TypeId) : Two2 (w.alloc (.cells #[x, y] t)) w.heap.size x y := by
  refine ⟨?_, ?_, ?_, ?_⟩
  · rw [World.cell?_alloc_at _ _ _ _ rfl]; rfl
  · rw [World.cell?_alloc_at _ _ _ _ rfl]; rfl
  · exact World.frozen?_alloc_at _ _ _ _ rfl
  · exact World.frozen?_alloc_at _ _ _ _ rfl
theorem Two2.fr {X : List Nat} {w w' : World} {b : Nat} {x y : Value} (h : Two2 w b x y) (k : Fr X w w') (hb : b ∉ X) : Two2 w' b x y := ⟨k.cell h.c0 hb, k.cell h.c1 hb, k.free h.c0 h.f0 hb, k.free h.c1 h.f1 hb⟩
theorem Two2.kp {w w' : World} {b : Nat} {x y : Value} (h : Two2 w b x y) (k : Kp w w') : Two2 w' b x y := h.fr (Fr.of_kp k) (by simp)
theorem Two2.set1 {w : World} {b : Nat} {x y : Value} (h : Two2 w b x y) (z : Value) : Two2 (w.setCell ⟨b, 1, none⟩ z) b x z :=
  ⟨by rw [World.cell?_setCell_other _ _ _ _ (by simp)]; exact h.c0, World.cell?_setCell_same _ _ _ h.c1, by rw [World.frozen?_setCell]; exact h.f0, by rw [World.frozen?_setCell]; exact h.f1⟩
theorem Fr.set2 (w : World) (b : Nat) (x y : Value) : Fr [b] w ((w.setCell ⟨b, 0, none⟩ x).setCell ⟨b, 1, none⟩ y) := (Fr.set w ⟨b, 0, none⟩ x).trans (Fr.set _ ⟨b, 1, none⟩ y)
theorem Two2.set2 {w : World} {b : Nat} {x y : Value} (h : Two2 w b x y) (u v : Value) : ∃ w', w' = (w.setCell ⟨b, 0, none⟩ u).setCell ⟨b, 1, none⟩ v ∧ w'.cell? ⟨b, 0, none⟩ = some u ∧ w'.cell? ⟨b, 1, none⟩ = some v := by
  refine ⟨_, rfl, ?_, ?_⟩
  · rw [World.cell?_setCell_other _ _ _ _ (by simp)]; exact World.cell?_setCell_same _ _ _ h.c0
  · exact World.cell?_setCell_same _ _ _ (by rw [World.cell?_setCell_other _ _ _ _ (by simp)]; exact h.c1)

set_option maxRecDepth 100000 in
set_option maxHeartbeats 8000000 in
theorem line_any (s : ByteArray) (m : Int) (w : World) (hs : s.size < 4294967281) (hm : MaxV w m) : Calls Tryz.prog 86 #[.string s] w (LinePost w s.data.toList) := by
  have HA := Lib.hid (fun w' => Tryz.strings_CutPrefix s ⟨#[32, 32, 45, 62, 32]⟩ w')
  have HB := Lib.hid (fun w' => Tryz.strings_CutPrefix s ⟨#[32, 32, 60, 45, 32]⟩ w')
  have hsl := Lib.size_eq s
  have Hl := Lib.hid (And.intro (show (⟨#[32, 32, 45, 62, 32]⟩ : ByteArray).data.toList = Q.outR from rfl) (show (⟨#[32, 32, 60, 45, 32]⟩ : ByteArray).data.toList = Q.inR from rfl))
  rw [Hl.out.1] at HA
  rw [Hl.out.2] at HB
  clear Hl
  by_cases hA : Lib.hasPrefix s.data.toList Q.outR = true
  · obtain ⟨r, hr, hrl⟩ : ∃ r, Lib.trimPrefix s.data.toList Q.outR = r ∧ r.length ≤ s.size := ⟨_, rfl, by have := Lib.trimPrefix_le s.data.toList Q.outR; omega⟩
    rw [hA, hr] at HA
    have Hr := Lib.hid (show Q.lineP s.data.toList = (Q.wordsT (Lib.split r Q.comma)).map (fun l => (0, l)) by unfold Q.lineP; rw [if_pos hA, ← hr]; unfold Lib.trimPrefix; rw [if_pos hA]; rfl)
    clear hA hr hsl
    change Hid (∀ w', Calls _ _ _ _ (fun e w'' => e = .returned (.tuple #[.string (bs r), .bool true]) ∧ w'' = w')) at HA
    go_enter Tryz.func86, Tryz.ntmps86
    go_wp2_with fail
    (with_reducible refine (HA.out _).mono ?_)
    rintro e w1 ⟨rfl, rfl⟩
    go_upto_region 7 with fail
    obtain ⟨w2, hw2⟩ : ∃ w2, w2 = (w.alloc (.cells #[iv 0, .slice none 0 0] 45)).alloc (.cells #[iv 0, .slice none 0 0] 45) := ⟨_, rfl⟩
    obtain ⟨b3, hb3⟩ : ∃ b3, b3 = w.heap.size + 1 := ⟨_, rfl⟩
    have hk2 : Kp w w2 := by rw [hw2]; exact Kp.trans (Kp.new _ _) (Kp.new _ _)
    have hret : Two2 w2 w.heap.size (iv 0) (.slice none 0 0) := by
      rw [hw2]
      exact (Two2.new w (iv 0) (.slice none 0 0) 45).kp (Kp.new _ _)
    have hout : Two2 w2 b3 (iv 0) (.slice none 0 0) := by
      rw [hw2, hb3]
      have := Two2.new (w.alloc (.cells #[iv 0, .slice none 0 0] 45)) (iv 0) (.slice none 0 0) 45
      rwa [World.size_alloc] at this
    have hs2 : b3 < w2.heap.size := by rw [hw2, hb3]; simp
    rw [← hw2, ← hb3]
    clear hw2
    have hb23 : w.heap.size < b3 := by omega
    obtain ⟨b2, hb2⟩ : ∃ b2, b2 = w.heap.size := ⟨_, rfl⟩
    rw [← hb2] at hret ⊢
    have hb2w : w.heap.size ≤ b2 := by omega
    have hb2w' : b2 < b3 := by omega
    clear hb2 hb3
    have hrs : (bs r).size < 4294967281 := by rw [bs_size]; omega
    have HSp := Lib.hid (Tryz.strings_Split (bs r) ⟨#[44, 32]⟩ m w2 hrs (hk2.maxV hm) (by decide))
    have hpl := pcs_length (bs r)
    have hcl : Lib.countB (bs r) ⟨#[44, 32]⟩ ≤ (bs r).size := Lib.countB_le _ (by decide) _ _ (Nat.le_refl _)
    have Hpd := Lib.hid (pcs_data (bs r))
    rw [← hpl] at HSp
    change Hid (Calls _ _ _ _ (fun e w' => e = .returned (.slice (some ⟨w2.heap.size, 0, none⟩) (pcs (bs r)).length (pcs (bs r)).length) ∧ w' = w2.alloc (.cells ((pcs (bs r)).map Value.string).toArray 9))) at HSp
    have hnl : (pcs (bs r)).length ≤ 4294967281 := by omega
    generalize pcs (bs r) = ps at *
    obtain ⟨n, hn⟩ : ∃ n, n = ps.length := ⟨_, rfl⟩
    rw [← hn] at HSp hnl
    clear hpl hcl hrs
    have hkp := Kp.new w2 (.cells (ps.map Value.string).toArray 9)
    have hps : ∀ j (h : j < ps.length), (w2.alloc (.cells (ps.map Value.string).toArray 9)).cell? ⟨w2.heap.size, j, none⟩ = some (.string ps[j]) := fun j h => by
      rw [World.cell?_alloc_at _ _ _ _ rfl]
      simp [h]
    have hre3 := hret.kp hkp
    have hou3 := hout.kp hkp
    have hk3 := Kp.trans hk2 hkp
    have hs3 : b3 < (w2.alloc (.cells (ps.map Value.string).toArray 9)).heap.size := Nat.lt_of_lt_of_le hs2 hkp.size
    have hbp : w2.heap.size < (w2.alloc (.cells (ps.map Value.string).toArray 9)).heap.size := by simp
    clear hret hout hkp hk2
    go_wp2_with fail
    (with_reducible refine HSp.out.mono ?_)
    rintro e w3 ⟨rfl, hw3⟩
    rw [← hw3] at hps hre3 hou3 hk3 hs3 hbp
    clear hw3
    obtain ⟨bp, hbq⟩ : ∃ bp, bp = w2.heap.size := ⟨_, rfl⟩
    rw [← hbq] at hps hs2 hbp ⊢
    clear hbq
    have Hn := Lib.hid hn
    have Hps := Lib.hid hps
    have Hre := Lib.hid hre3
    have Hk3 := Lib.hid hk3
    clear hn hps hre3 hk3
    go_wp2_with fail
    go_loopw [27] (fun i wr => ∃ (k : Nat) (ts : List Int) (ao : Option Addr) (cap : Nat), k ≤ n ∧ i = .int .i64 (k : Nat) ∧ Fr [b3] w3 wr ∧ Two2 wr b3 (iv 0) (.slice ao k cap) ∧ Own wr w3.heap.size 3 1 ao k cap (ts.map iv) ∧ Q.wordsT ((ps.map (·.data.toList)).take k) = some ts) (fun i _ => n - (intOf i).toNat)
    case atStart => exact ⟨0, [], none, 0, by omega, rfl, Fr.refl _ _, hou3, Own.nil _ _ _ _, rfl⟩
    case round =>
      clear hou3
      obtain ⟨k, ts, ao, cap, hk, rfl, hF, hO, hW, hT⟩ := hrel
      by_cases hlt : k < n
      · have hkp : k < ps.length := by rw [← Hn.out]; exact hlt
        obtain ⟨x, hx⟩ : ∃ x, ps[k]? = some x := ⟨_, List.getElem?_eq_getElem hkp⟩
        have hc : wr.cell? ⟨bp, k, none⟩ = some (.string x) := by
          refine hF.cell ?_ (by simp; omega)
          rw [Hps.out k hkp]
          rw [List.getElem?_eq_getElem hkp] at hx
          rw [Option.some.inj hx]
        have hxd : (ps.map (·.data.toList))[k]? = some x.data.toList := by rw [List.getElem?_map, hx]; rfl
        have Hxd := Lib.hid hxd
        have HT := Lib.hid hT
        clear hxd hT hx
        go_upto_region 10 with fail
        clear hc
        have Hbad := Lib.hid (fun w' (hk' : Kp w w') (hn : Q.lineP s.data.toList = none) => show LinePost w s.data.toList badE w' from ⟨hk', by rw [hn]⟩)
        refine anyP_start (fun w => w.cell? ⟨b3, 1, none⟩ = some (.slice ao k cap)) 7 (fun a => a.defers = []) (fun c w' => c = badC ∧ Kp w w' ∧ Q.lineP s.data.toList = none) (by kernel_rfl) ?hp ?_
        case hp =>
          rintro c a w' hd ⟨rfl, hk', hn'⟩
          exact ⟨hd, Hbad.out _ hk' hn'⟩
        have hI : ∀ ops : Array Oper, Puts ops (fun a => a.defers = []) := fun _ _ o _ a v h => by
          unfold Act.put at h
          cases hd : o.dst <;> rw [hd] at h <;> exact h
        generalize hwq : wr.drew = wd
        have hkd : Kp wr wd := hwq ▸ (⟨rfl, rfl, rfl, Nat.le_refl _, fun _ _ => rfl⟩ : Kp wr wr.drew)
        clear hwq
        have hS := hkd.cell hO.c1
        refine anyP_take (hI _) [0, 2] (by kernel_rfl) hS ?_
        simp only [opsAt, List.getElem?_toArray, List.getElem?_cons_zero, List.getElem?_cons_succ]
        repeat (go_big_quiet_step (fail))
        refine wpQuiet_nil ?_
        refine anyP_load (hI _) 1 32 (.slice ao k cap) rfl rfl (by kernel_rfl) hS (fun w h => exec_load22 h rfl rfl) ?_
        simp only [Act.put, List.setIfInBounds_toArray, List.set_cons_zero, List.set_cons_succ]
        refine anyP_one 3 (by kernel_rfl) ?_
        simp only [opsAt, List.getElem?_toArray, List.getElem?_cons_zero, List.getElem?_cons_succ]
        have hkw : Kp w wr := ((Fr.of_kp Hk3.out).step hF (fun j hj => .inr (by simp at hj; omega))).kp
        have Hkw := Lib.hid (Kp.trans hkw hkd)
        clear hkw
        cases hw : Q.wordT x.data.toList with
        | none =>
          have hTk := token_any x wd
          unfold TokPost at hTk
          rw [hw] at hTk
          have HTk := Lib.hid hTk
          have Hno := Lib.hid (show Q.lineP s.data.toList = none by rw [Hr.out, ← bs_list r, ← Hpd.out, wordsT_bad Hxd.out hw]; rfl)
          clear hTk hw hS
          go_wp2_with fail
          (with_reducible refine HTk.out.mono ?_)
          rintro e w4 ⟨rfl, hk4⟩
          exact ⟨rfl, Kp.trans Hkw.out hk4, Hno.out⟩
        | some t =>
          have hTk := token_any x wd
          unfold TokPost at hTk
          rw [hw] at hTk
          have HTk := Lib.hid hTk
          have Hts := Lib.hid (wordsT_take Hxd.out HT.out hw)
          clear hTk hw
          go_wp2_with fail
          (with_reducible refine HTk.out.mono ?_)
          rintro e w4 ⟨rfl, hk4⟩
          have hS4 := hk4.cell hS
          go_wp2_with fail
          refine ⟨fun _ => hS4, ?_⟩
          refine anyP_one 4 (by kernel_rfl) ?_
          simp only [opsAt, List.getElem?_toArray, List.getElem?_cons_zero, List.getElem?_cons_succ]
          have hkn := Kp.new w4 (.cells #[iv t] 3)
          have hcs : Cs (w4.alloc (.cells #[iv t] 3)) (some ⟨w4.heap.size, 0, none⟩) [iv t] := Cs.new w4 [iv t] 3 (0, 0)
          have hS5 := hkn.cell hS4
          have hk45 : Kp wr (w4.alloc (.cells #[iv t] 3)) := Kp.trans (Kp.trans hkd hk4) hkn
          clear hS hS4
          go_wp2_with fail
          refine ⟨fun _ => hS5, ?_⟩
          generalize w4.alloc (.cells #[iv t] 3) = w5 at *
          obtain ⟨b4, hb4⟩ : ∃ b4, b4 = w4.heap.size := ⟨_, rfl⟩
          rw [← hb4] at hcs ⊢
          clear hb4 hkn
          refine anyP_one 5 (by kernel_rfl) ?_
          simp only [opsAt, List.getElem?_toArray, List.getElem?_cons_zero, List.getElem?_cons_succ]
          have hbs : w3.heap.size ≤ w5.heap.size := Nat.le_trans hF.size hk45.size
          go_wp2_with (at_builtin; go_loud (refine wpList_app rfl (.tmp 32) (.tmp 35) 22 rfl el22 w3.heap.size rfl (hW.keep hk45) rfl [iv t] rfl hcs (by simp [Value.oneCell']) (k + 1) rfl ((ts ++ [t]).map iv) (by simp) (by omega) hbs ?_); intro ao2 cap2 w6 ha)
          have hn3 : b3 ∉ blkL ao := fun h => by have := (hW.lt b3 (mem_blkL.1 h)).1; omega
          have hS6 := ha.fr.cell hS5 hn3
          refine ⟨fun _ => hS6, ?_⟩
          refine anyP_take (hI _) [6] (by kernel_rfl) hS6 ?_
          simp only [opsAt, List.getElem?_toArray, List.getElem?_cons_zero, List.getElem?_cons_succ]
          repeat (go_big_quiet_step (fail))
          refine wpQuiet_nil ?_
          refine anyP_one 7 (by kernel_rfl) ?_
          simp only [opsAt, List.getElem?_toArray, List.getElem?_cons_zero, List.getElem?_cons_succ]
          have hO6 := (hO.kp hk45).fr ha.fr hn3
          have hset := Fr.set w6 ⟨b3, 1, none⟩ (.slice ao2 (k + 1) cap2)
          have hn4 : ∀ j ∈ blkL ao2, j ∉ [b3] := fun j hj hq => by
            simp only [List.mem_singleton] at hq
            subst hq
            rcases ha.fresh _ (mem_blkL.1 hj) with h | h
            · exact hn3 (mem_blkL.2 h)
            · have := hF.size; have := hk45.size; omega
          have hF36 : Fr [b3] w3 w6 := (hF.trans ((Fr.of_kp hk45).mono (by simp))).step ha.fr (fun j hj => .inr (hW.lt j (mem_blkL.1 hj)).1)
          have Hfin := Lib.hid (And.intro (hF36.trans hset) (And.intro (hO6.set1 (.slice ao2 (k + 1) cap2)) (And.intro (hset.own ha.own hn4) Hts.out)))
          have hf6 := hO6.f1
          clear hset hO6 hn4 hO hS5 ha hcs hW hF hn3 hF36
          go_wp2_with fail
          refine ⟨fun h => absurd rfl h, ?_⟩
          refine anyP_end (by kernel_rfl) ?_
          clear hS6 hf6
          go_wp2_with fail
          go_roundw
          case rel => exact ⟨k + 1, ts ++ [t], ao2, cap2, by omega, by go_num, Hfin.out⟩
          case measure => simp [intOf]; omega
      · obtain rfl : k = n := by omega
        have Hyes := Lib.hid (show Q.lineP s.data.toList = some (0, ts) by
          rw [List.take_of_length_le (by rw [List.length_map, ← Hn.out]; exact Nat.le_refl _), Hpd.out, bs_list] at hT
          rw [Hr.out, hT]; rfl)
        have hR := Hre.out.fr hF (by simp; omega)
        have hkw : Kp w wr := ((Fr.of_kp Hk3.out).step hF (fun j hj => .inr (by simp at hj; omega))).kp
        have hset := Fr.set2 wr b2 (iv 0) (.slice ao k cap)
        have hnb : ∀ j ∈ blkL ao, j ∉ [b2] := fun j hj hq => by
          have := (hW.lt j (mem_blkL.1 hj)).1
          simp at hq; omega
        have Hfin := Lib.hid (And.intro ((Fr.of_kp hkw).step hset (fun j hj => .inr (by simp at hj; omega))).kp ((hset.own hW hnb).mono (fun j hj => by have := (hW.lt j hj).1; have := Hk3.out.size; omega) : Own _ w.heap.size 3 1 ao k cap (ts.map iv)))
        obtain ⟨wf, hwf, c0, c1⟩ := hR.set2 (iv 0) (.slice ao k cap)
        rw [← hwf] at Hfin
        have Hwf := Lib.hid hwf
        obtain ⟨x0, x1, x2, x3⟩ := hR
        obtain ⟨y0, y1, _, _⟩ := hO
        clear hset hnb hwf hF hW hT hkw
        go_wp2_with fail
        rw [← Hwf.out]
        show bodyPost Tryz.prog Tryz.f86 (LinePost w s.data.toList) .ret _ _
        refine bodyPost_ret (v := .agg #[iv 0, .slice ao k cap]) (by simp [results, Tryz.results86, go_sem, c0, c1]) rfl ?_
        refine ⟨Hfin.out.1, ?_⟩
        rw [Hyes.out]
        exact ⟨⟨ao, k, cap⟩, rfl, Hfin.out.2⟩
  · by_cases hB : Lib.hasPrefix s.data.toList Q.inR = true
    · obtain ⟨r, hr, hrl⟩ : ∃ r, Lib.trimPrefix s.data.toList Q.inR = r ∧ r.length ≤ s.size := ⟨_, rfl, by have := Lib.trimPrefix_le s.data.toList Q.inR; omega⟩
      have hA' : Lib.hasPrefix s.data.toList Q.outR = false := by simpa using hA
      rw [hA'] at HA
      rw [hB, hr] at HB
      have Hr := Lib.hid (show Q.lineP s.data.toList = (Q.wordsT (Lib.split r Q.comma)).map (fun l => (1, l)) by unfold Q.lineP; rw [if_neg hA, if_pos hB, ← hr]; unfold Lib.trimPrefix; rw [if_pos hB]; rfl)
      clear hA hA' hB hr hsl
      change Hid (∀ w', Calls _ _ _ _ (fun e w'' => e = .returned (.tuple #[.string (bs r), .bool true]) ∧ w'' = w')) at HB
      go_enter Tryz.func86, Tryz.ntmps86
      go_wp2_with fail
      (with_reducible refine (HA.out _).mono ?_)
      rintro e w1 ⟨rfl, rfl⟩
      go_wp2_with fail
      (with_reducible refine (HB.out _).mono ?_)
      rintro e w1 ⟨rfl, rfl⟩
      go_wp2_with fail
      (with_reducible refine (ask_true _).mono ?_)
      rintro e w1 ⟨rfl, rfl⟩
      go_upto_region 7 with fail
      obtain ⟨w2, hw2⟩ : ∃ w2, w2 = (w.alloc (.cells #[iv 0, .slice none 0 0] 45)).alloc (.cells #[iv 1, .slice none 0 0] 45) := ⟨_, rfl⟩
      obtain ⟨b3, hb3⟩ : ∃ b3, b3 = w.heap.size + 1 := ⟨_, rfl⟩
      have hk2 : Kp w w2 := by rw [hw2]; exact Kp.trans (Kp.new _ _) (Kp.new _ _)
      have hret : Two2 w2 w.heap.size (iv 0) (.slice none 0 0) := by
        rw [hw2]
        exact (Two2.new w (iv 0) (.slice none 0 0) 45).kp (Kp.new _ _)
      have hout : Two2 w2 b3 (iv 1) (.slice none 0 0) := by
        rw [hw2, hb3]
        have := Two2.new (w.alloc (.cells #[iv 0, .slice none 0 0] 45)) (iv 1) (.slice none 0 0) 45
        rwa [World.size_alloc] at this
      have hs2 : b3 < w2.heap.size := by rw [hw2, hb3]; simp
      rw [← hw2, ← hb3]
      clear hw2
      have hb23 : w.heap.size < b3 := by omega
      obtain ⟨b2, hb2⟩ : ∃ b2, b2 = w.heap.size := ⟨_, rfl⟩
      rw [← hb2] at hret ⊢
      have hb2w : w.heap.size ≤ b2 := by omega
      have hb2w' : b2 < b3 := by omega
      clear hb2 hb3
      have hrs : (bs r).size < 4294967281 := by rw [bs_size]; omega
      have HSp := Lib.hid (Tryz.strings_Split (bs r) ⟨#[44, 32]⟩ m w2 hrs (hk2.maxV hm) (by decide))
      have hpl := pcs_length (bs r)
      have hcl : Lib.countB (bs r) ⟨#[44, 32]⟩ ≤ (bs r).size := Lib.countB_le _ (by decide) _ _ (Nat.le_refl _)
      have Hpd := Lib.hid (pcs_data (bs r))
      rw [← hpl] at HSp
      change Hid (Calls _ _ _ _ (fun e w' => e = .returned (.slice (some ⟨w2.heap.size, 0, none⟩) (pcs (bs r)).length (pcs (bs r)).length) ∧ w' = w2.alloc (.cells ((pcs (bs r)).map Value.string).toArray 9))) at HSp
      have hnl : (pcs (bs r)).length ≤ 4294967281 := by omega
      generalize pcs (bs r) = ps at *
      obtain ⟨n, hn⟩ : ∃ n, n = ps.length := ⟨_, rfl⟩
      rw [← hn] at HSp hnl
      clear hpl hcl hrs
      have hkp := Kp.new w2 (.cells (ps.map Value.string).toArray 9)
      have hps : ∀ j (h : j < ps.length), (w2.alloc (.cells (ps.map Value.string).toArray 9)).cell? ⟨w2.heap.size, j, none⟩ = some (.string ps[j]) := fun j h => by
        rw [World.cell?_alloc_at _ _ _ _ rfl]
        simp [h]
      have hre3 := hret.kp hkp
      have hou3 := hout.kp hkp
      have hk3 := Kp.trans hk2 hkp
      have hs3 : b3 < (w2.alloc (.cells (ps.map Value.string).toArray 9)).heap.size := Nat.lt_of_lt_of_le hs2 hkp.size
      have hbp : w2.heap.size < (w2.alloc (.cells (ps.map Value.string).toArray 9)).heap.size := by simp
      clear hret hout hkp hk2
      go_wp2_with fail
      (with_reducible refine HSp.out.mono ?_)
      rintro e w3 ⟨rfl, hw3⟩
      rw [← hw3] at hps hre3 hou3 hk3 hs3 hbp
      clear hw3
      obtain ⟨bp, hbq⟩ : ∃ bp, bp = w2.heap.size := ⟨_, rfl⟩
      rw [← hbq] at hps hs2 hbp ⊢
      clear hbq
      have Hn := Lib.hid hn
      have Hps := Lib.hid hps
      have Hre := Lib.hid hre3
      have Hk3 := Lib.hid hk3
      clear hn hps hre3 hk3
      go_wp2_with fail
      go_loopw [27] (fun i wr => ∃ (k : Nat) (ts : List Int) (ao : Option Addr) (cap : Nat), k ≤ n ∧ i = .int .i64 (k : Nat) ∧ Fr [b3] w3 wr ∧ Two2 wr b3 (iv 1) (.slice ao k cap) ∧ Own wr w3.heap.size 3 1 ao k cap (ts.map iv) ∧ Q.wordsT ((ps.map (·.data.toList)).take k) = some ts) (fun i _ => n - (intOf i).toNat)
      case atStart => exact ⟨0, [], none, 0, by omega, rfl, Fr.refl _ _, hou3, Own.nil _ _ _ _, rfl⟩
      case round =>
        clear hou3
        obtain ⟨k, ts, ao, cap, hk, rfl, hF, hO, hW, hT⟩ := hrel
        by_cases hlt : k < n
        · have hkp : k < ps.length := by rw [← Hn.out]; exact hlt
          obtain ⟨x, hx⟩ : ∃ x, ps[k]? = some x := ⟨_, List.getElem?_eq_getElem hkp⟩
          have hc : wr.cell? ⟨bp, k, none⟩ = some (.string x) := by
            refine hF.cell ?_ (by simp; omega)
            rw [Hps.out k hkp]
            rw [List.getElem?_eq_getElem hkp] at hx
            rw [Option.some.inj hx]
          have hxd : (ps.map (·.data.toList))[k]? = some x.data.toList := by rw [List.getElem?_map, hx]; rfl
          have Hxd := Lib.hid hxd
          have HT := Lib.hid hT
          clear hxd hT hx
          go_upto_region 10 with fail
          clear hc
          have Hbad := Lib.hid (fun w' (hk' : Kp w w') (hn : Q.lineP s.data.toList = none) => show LinePost w s.data.toList badE w' from ⟨hk', by rw [hn]⟩)
          refine anyP_start (fun w => w.cell? ⟨b3, 1, none⟩ = some (.slice ao k cap)) 7 (fun a => a.defers = []) (fun c w' => c = badC ∧ Kp w w' ∧ Q.lineP s.data.toList = none) (by kernel_rfl) ?hp ?_
          case hp =>
            rintro c a w' hd ⟨rfl, hk', hn'⟩
            exact ⟨hd, Hbad.out _ hk' hn'⟩
          have hI : ∀ ops : Array Oper, Puts ops (fun a => a.defers = []) := fun _ _ o _ a v h => by
            unfold Act.put at h
            cases hd : o.dst <;> rw [hd] at h <;> exact h
          generalize hwq : wr.drew = wd
          have hkd : Kp wr wd := hwq ▸ (⟨rfl, rfl, rfl, Nat.le_refl _, fun _ _ => rfl⟩ : Kp wr wr.drew)
          clear hwq
          have hS := hkd.cell hO.c1
          refine anyP_take (hI _) [0, 2] (by kernel_rfl) hS ?_
          simp only [opsAt, List.getElem?_toArray, List.getElem?_cons_zero, List.getElem?_cons_succ]
          repeat (go_big_quiet_step (fail))
          refine wpQuiet_nil ?_
          refine anyP_load (hI _) 1 32 (.slice ao k cap) rfl rfl (by kernel_rfl) hS (fun w h => exec_load22 h rfl rfl) ?_
          simp only [Act.put, List.setIfInBounds_toArray, List.set_cons_zero, List.set_cons_succ]
          refine anyP_one 3 (by kernel_rfl) ?_
          simp only [opsAt, List.getElem?_toArray, List.getElem?_cons_zero, List.getElem?_cons_succ]
          have hkw : Kp w wr := ((Fr.of_kp Hk3.out).step hF (fun j hj => .inr (by simp at hj; omega))).kp
          have Hkw := Lib.hid (Kp.trans hkw hkd)
          clear hkw
          cases hw : Q.wordT x.data.toList with
          | none =>
            have hTk := token_any x wd
            unfold TokPost at hTk
            rw [hw] at hTk
            have HTk := Lib.hid hTk
            have Hno := Lib.hid (show Q.lineP s.data.toList = none by rw [Hr.out, ← bs_list r, ← Hpd.out, wordsT_bad Hxd.out hw]; rfl)
            clear hTk hw hS
            go_wp2_with fail
            (with_reducible refine HTk.out.mono ?_)
            rintro e w4 ⟨rfl, hk4⟩
            exact ⟨rfl, Kp.trans Hkw.out hk4, Hno.out⟩
          | some t =>
            have hTk := token_any x wd
            unfold TokPost at hTk
            rw [hw] at hTk
            have HTk := Lib.hid hTk
            have Hts := Lib.hid (wordsT_take Hxd.out HT.out hw)
            clear hTk hw
            go_wp2_with fail
            (with_reducible refine HTk.out.mono ?_)
            rintro e w4 ⟨rfl, hk4⟩
            have hS4 := hk4.cell hS
            go_wp2_with fail
            refine ⟨fun _ => hS4, ?_⟩
            refine anyP_one 4 (by kernel_rfl) ?_
            simp only [opsAt, List.getElem?_toArray, List.getElem?_cons_zero, List.getElem?_cons_succ]
            have hkn := Kp.new w4 (.cells #[iv t] 3)
            have hcs : Cs (w4.alloc (.cells #[iv t] 3)) (some ⟨w4.heap.size, 0, none⟩) [iv t] := Cs.new w4 [iv t] 3 (0, 0)
            have hS5 := hkn.cell hS4
            have hk45 : Kp wr (w4.alloc (.cells #[iv t] 3)) := Kp.trans (Kp.trans hkd hk4) hkn
            clear hS hS4
            go_wp2_with fail
            refine ⟨fun _ => hS5, ?_⟩
            generalize w4.alloc (.cells #[iv t] 3) = w5 at *
            obtain ⟨b4, hb4⟩ : ∃ b4, b4 = w4.heap.size := ⟨_, rfl⟩
            rw [← hb4] at hcs ⊢
            clear hb4 hkn
            refine anyP_one 5 (by kernel_rfl) ?_
            simp only [opsAt, List.getElem?_toArray, List.getElem?_cons_zero, List.getElem?_cons_succ]
            have hbs : w3.heap.size ≤ w5.heap.size := Nat.le_trans hF.size hk45.size
            go_wp2_with (at_builtin; go_loud (refine wpList_app rfl (.tmp 32) (.tmp 35) 22 rfl el22 w3.heap.size rfl (hW.keep hk45) rfl [iv t] rfl hcs (by simp [Value.oneCell']) (k + 1) rfl ((ts ++ [t]).map iv) (by simp) (by omega) hbs ?_); intro ao2 cap2 w6 ha)
            have hn3 : b3 ∉ blkL ao := fun h => by have := (hW.lt b3 (mem_blkL.1 h)).1; omega
            have hS6 := ha.fr.cell hS5 hn3
            refine ⟨fun _ => hS6, ?_⟩
            refine anyP_take (hI _) [6] (by kernel_rfl) hS6 ?_
            simp only [opsAt, List.getElem?_toArray, List.getElem?_cons_zero, List.getElem?_cons_succ]
            repeat (go_big_quiet_step (fail))
            refine wpQuiet_nil ?_
            refine anyP_one 7 (by kernel_rfl) ?_
            simp only [opsAt, List.getElem?_toArray, List.getElem?_cons_zero, List.getElem?_cons_succ]
            have hO6 := (hO.kp hk45).fr ha.fr hn3
            have hset := Fr.set w6 ⟨b3, 1, none⟩ (.slice ao2 (k + 1) cap2)
            have hn4 : ∀ j ∈ blkL ao2, j ∉ [b3] := fun j hj hq => by
              simp only [List.mem_singleton] at hq
              subst hq
              rcases ha.fresh _ (mem_blkL.1 hj) with h | h
              · exact hn3 (mem_blkL.2 h)
              · have := hF.size; have := hk45.size; omega
            have hF36 : Fr [b3] w3 w6 := (hF.trans ((Fr.of_kp hk45).mono (by simp))).step ha.fr (fun j hj => .inr (hW.lt j (mem_blkL.1 hj)).1)
            have Hfin := Lib.hid (And.intro (hF36.trans hset) (And.intro (hO6.set1 (.slice ao2 (k + 1) cap2)) (And.intro (hset.own ha.own hn4) Hts.out)))
            have hf6 := hO6.f1
            clear hset hO6 hn4 hO hS5 ha hcs hW hF hn3 hF36
            go_wp2_with fail
            refine ⟨fun h => absurd rfl h, ?_⟩
            refine anyP_end (by kernel_rfl) ?_
            clear hS6 hf6
            go_wp2_with fail
            go_roundw
            case rel => exact ⟨k + 1, ts ++ [t], ao2, cap2, by omega, by go_num, Hfin.out⟩
            case measure => simp [intOf]; omega
        · obtain rfl : k = n := by omega
          have Hyes := Lib.hid (show Q.lineP s.data.toList = some (1, ts) by
            rw [List.take_of_length_le (by rw [List.length_map, ← Hn.out]; exact Nat.le_refl _), Hpd.out, bs_list] at hT
            rw [Hr.out, hT]; rfl)
          have hR := Hre.out.fr hF (by simp; omega)
          have hkw : Kp w wr := ((Fr.of_kp Hk3.out).step hF (fun j hj => .inr (by simp at hj; omega))).kp
          have hset := Fr.set2 wr b2 (iv 1) (.slice ao k cap)
          have hnb : ∀ j ∈ blkL ao, j ∉ [b2] := fun j hj hq => by
            have := (hW.lt j (mem_blkL.1 hj)).1
            simp at hq; omega
          have Hfin := Lib.hid (And.intro ((Fr.of_kp hkw).step hset (fun j hj => .inr (by simp at hj; omega))).kp ((hset.own hW hnb).mono (fun j hj => by have := (hW.lt j hj).1; have := Hk3.out.size; omega) : Own _ w.heap.size 3 1 ao k cap (ts.map iv)))
          obtain ⟨wf, hwf, c0, c1⟩ := hR.set2 (iv 1) (.slice ao k cap)
          rw [← hwf] at Hfin
          have Hwf := Lib.hid hwf
          obtain ⟨x0, x1, x2, x3⟩ := hR
          obtain ⟨y0, y1, _, _⟩ := hO
          clear hset hnb hwf hF hW hT hkw
          go_wp2_with fail
          rw [← Hwf.out]
          show bodyPost Tryz.prog Tryz.f86 (LinePost w s.data.toList) .ret _ _
          refine bodyPost_ret (v := .agg #[iv 1, .slice ao k cap]) (by simp [results, Tryz.results86, go_sem, c0, c1]) rfl ?_
          refine ⟨Hfin.out.1, ?_⟩
          rw [Hyes.out]
          exact ⟨⟨ao, k, cap⟩, rfl, Hfin.out.2⟩
    · have hA' : Lib.hasPrefix s.data.toList Q.outR = false := by simpa using hA
      have hB' : Lib.hasPrefix s.data.toList Q.inR = false := by simpa using hB
      rw [hA'] at HA
      rw [hB'] at HB
      have Hr := Lib.hid (show Q.lineP s.data.toList = none by unfold Q.lineP; rw [if_neg hA, if_neg hB])
      clear hA hA' hB hB' hsl
      have hk := Kp.trans (Kp.new w (.cells #[iv 0, .slice none 0 0] 45)) (Kp.new (w.alloc (.cells #[iv 0, .slice none 0 0] 45)) (.cells #[iv 1, .slice none 0 0] 45))
      have Hk := Lib.hid hk
      clear hk
      go_enter Tryz.func86, Tryz.ntmps86
      go_wp2_with fail
      (with_reducible refine (HA.out _).mono ?_)
      rintro e w1 ⟨rfl, rfl⟩
      go_wp2_with fail
      (with_reducible refine (HB.out _).mono ?_)
      rintro e w1 ⟨rfl, rfl⟩
      go_wp2_with fail
      (with_reducible refine (ask_false _).mono ?_)
      rintro e w1 ⟨rfl, rfl⟩
      unfold badE
      go_wp2_with fail
      exact ⟨rfl, Hk.out, by rw [Hr.out]; rfl⟩
end Go.Proofs.YtbdphdgomcabmaaGreatDoor

namespace Go.Proofs.YtbdphdgomcabmaaGreatDoor
open Go.RowKit

theorem catch_idle (bP bK : Nat) (w : World) : CallsD Tryz.prog 82 #[.pointer (some ⟨bP, 0, none⟩), .pointer (some ⟨bK, 0, none⟩)] .returning w fun e u' w' => e = .returned (.tuple #[]) ∧ u' = .returning ∧ w' = w := by
  refine callsD_of_wpS Tryz.func82 rfl fun c₀ cs hu => ?_
  apply wpS_seq
  apply wpS_region
  simp [wpOpsS, go_sem, recoverD, hu, Tryz.ntmps82, Exit.thenS]
  apply wpS_seq
  apply wpS_region
  simp [wpOpsS, go_sem]
  refine wpS_cond (t := false) (by simp [Act.eval, Array.replicate]) ?_
  simp only [Bool.false_eq_true, if_false]
  refine wpS_of_wp (wp_skip ?_)
  cases c₀
  simp_all [bodyPostS, results, Tryz.results82]

/-- A pattern's four cells, which may be written. -/
structure Four (w : World) (b : Nat) (x y z u : Value) : Prop where
  c0 : w.cell? ⟨b, 0, none⟩ = some x
  c1 : w.cell? ⟨b, 1, none⟩ = some y
  c2 : w.cell? ⟨b, 2, none⟩ = some z
  c3 : w.cell? ⟨b, 3, none⟩ = some u
  f0 : w.frozen? ⟨b, 0, none⟩ = false
  f1 : w.frozen? ⟨b, 1, none⟩ = false
  f2 : w.frozen? ⟨b, 2, none⟩ = false
  f3 : w.frozen? ⟨b, 3, none⟩ = false
theorem Four.new (w : World) (x y z u : Value) (t : TypeId) : Four (w.alloc (.cells #[x, y, z, u] t)) w.heap.size x y z u := by
  refine ⟨?_, ?_, ?_, ?_, ?_, ?_, ?_, ?_⟩
  · rw [World.cell?_alloc_at _ _ _ _ rfl]; rfl
  · rw [World.cell?_alloc_at _ _ _ _ rfl]; rfl
  · rw [World.cell?_alloc_at _ _ _ _ rfl]; rfl
  · rw [World.cell?_alloc_at _ _ _ _ rfl]; rfl
  all_goals exact World.frozen?_alloc_at _ _ _ _ rfl
theorem Four.fr {X : List Nat} {w w' : World} {b : Nat} {x y z u : Value} (h : Four w b x y z u) (k : Fr X w w') (hb : b ∉ X) : Four w' b x y z u :=
  ⟨k.cell h.c0 hb, k.cell h.c1 hb, k.cell h.c2 hb, k.cell h.c3 hb, k.free h.c0 h.f0 hb, k.free h.c1 h.f1 hb, k.free h.c2 h.f2 hb, k.free h.c3 h.f3 hb⟩
theorem Four.kp {w w' : World} {b : Nat} {x y z u : Value} (h : Four w b x y z u) (k : Kp w w') : Four w' b x y z u := h.fr (Fr.of_kp k) (by simp)
/-- One cell, which may be written. -/
structure One1 (w : World) (b : Nat) (x : Value) : Prop where
  c : w.cell? ⟨b, 0, none⟩ = some x
  f : w.frozen? ⟨b, 0, none⟩ = false
theorem One1.new (w : World) (x : Value) (t : TypeId) : One1 (w.alloc (.cells #[x] t)) w.heap.size x := by
  refine ⟨?_, ?_⟩
  · rw [World.cell?_alloc_at _ _ _ _ rfl]; rfl
  · exact World.frozen?_alloc_at _ _ _ _ rfl
theorem One1.fr {X : List Nat} {w w' : World} {b : Nat} {x : Value} (h : One1 w b x) (k : Fr X w w') (hb : b ∉ X) : One1 w' b x := ⟨k.cell h.c hb, k.free h.c h.f hb⟩
theorem One1.kp {w w' : World} {b : Nat} {x : Value} (h : One1 w b x) (k : Kp w w') : One1 w' b x := h.fr (Fr.of_kp k) (by simp)
theorem Four.set {w : World} {b : Nat} {x y z u : Value} (h : Four w b x y z u) (x' y' z' u' : Value) : ∃ w', w' = (((w.setCell ⟨b, 0, none⟩ x').setCell ⟨b, 1, none⟩ y').setCell ⟨b, 2, none⟩ z').setCell ⟨b, 3, none⟩ u' ∧ Fr [b] w w' ∧ Four w' b x' y' z' u' := by
  refine ⟨_, rfl, (((Fr.set w ⟨b, 0, none⟩ x').trans (Fr.set _ ⟨b, 1, none⟩ y')).trans (Fr.set _ ⟨b, 2, none⟩ z')).trans (Fr.set _ ⟨b, 3, none⟩ u'), ⟨?_, ?_, ?_, ?_, ?_, ?_, ?_, ?_⟩⟩
  · rw [World.cell?_setCell_other _ _ _ _ (by simp), World.cell?_setCell_other _ _ _ _ (by simp), World.cell?_setCell_other _ _ _ _ (by simp)]
    exact World.cell?_setCell_same _ _ _ h.c0
  · rw [World.cell?_setCell_other _ _ _ _ (by simp), World.cell?_setCell_other _ _ _ _ (by simp)]
    exact World.cell?_setCell_same _ _ _ (by rw [World.cell?_setCell_other _ _ _ _ (by simp)]; exact h.c1)
  · rw [World.cell?_setCell_other _ _ _ _ (by simp)]
    exact World.cell?_setCell_same _ _ _ (by rw [World.cell?_setCell_other _ _ _ _ (by simp), World.cell?_setCell_other _ _ _ _ (by simp)]; exact h.c2)
  · exact World.cell?_setCell_same _ _ _ (by rw [World.cell?_setCell_other _ _ _ _ (by simp), World.cell?_setCell_other _ _ _ _ (by simp), World.cell?_setCell_other _ _ _ _ (by simp)]; exact h.c3)
  · simp only [World.frozen?_setCell]; exact h.f0
  · simp only [World.frozen?_setCell]; exact h.f1
  · simp only [World.frozen?_setCell]; exact h.f2
  · simp only [World.frozen?_setCell]; exact h.f3
theorem One1.set {w : World} {b : Nat} {x : Value} (h : One1 w b x) (y : Value) : One1 (w.setCell ⟨b, 0, none⟩ y) b y := ⟨World.cell?_setCell_same _ _ _ h.c, by rw [World.frozen?_setCell]; exact h.f⟩
set_option maxRecDepth 100000 in
set_option maxHeartbeats 2000000 in
theorem catch_bad (bP bK : Nat) (hne : bP ≠ bK) (w : World) (x y z u v : Value) (hP : Four w bP x y z u) (hK : One1 w bK v) :
    CallsD Tryz.prog 82 #[.pointer (some ⟨bP, 0, none⟩), .pointer (some ⟨bK, 0, none⟩)] (.panicking badC) w fun e u' w' =>
      e = .returned (.tuple #[]) ∧ u' = .panicking [{ v := .iface 124 (.agg #[]), recovered := true }] ∧ Fr [bP, bK] w w' ∧ Four w' bP (.string ⟨#[]⟩) (.slice none 0 0) (.slice none 0 0) (.slice none 0 0) ∧ One1 w' bK (.bool false) := by
  unfold badC
  refine callsD_of_wpS Tryz.func82 rfl fun c₀ cs hu => ?_
  apply wpS_seq
  apply wpS_region
  simp [wpOpsS, go_sem, recoverD, hu, Tryz.ntmps82, Exit.thenS]
  apply wpS_seq
  apply wpS_region
  simp [wpOpsS, go_sem]
  refine wpS_cond (t := true) (by simp [Act.eval, Array.replicate]) ?_
  simp only [if_true]
  obtain ⟨c0, c1, c2, c3, f0, f1, f2, f3⟩ := hP
  obtain ⟨k0, k1⟩ := hK
  have hk1 := Kp.new w (.cells #[] 124)
  have hP1 := Four.kp ⟨c0, c1, c2, c3, f0, f1, f2, f3⟩ hk1
  have hK1 := One1.kp ⟨k0, k1⟩ hk1
  clear c0 c1 c2 c3 f0 f1 f2 f3 k0 k1
  have hta : ∀ w, (Instr.typeAssert (.iface 124 (.agg #[])) 20 124 true).run Tryz.prog w = .ok (.tuple #[.agg #[], .bool true]) w := fun _ => by kernel_rfl
  refine wpS_of_wp ?_
  show Code.wp Tryz.prog _ _ { tmps := #[.pointer (some ⟨bP, 0, none⟩), .pointer (some ⟨bK, 0, none⟩), .iface 124 (.agg #[]), undef, undef, .iface 124 (.agg #[]), .iface 124 (.agg #[]), .bool true, undef, undef, undef, undef, undef, undef, undef, undef, undef], defers := [] } w
  go_upto_region 5 with fail
  generalize w.alloc (.cells #[] 124) = w1 at *
  obtain ⟨wf, hwf, hF, hP2⟩ := hP1.set (.string ⟨#[]⟩) (.slice none 0 0) (.slice none 0 0) (.slice none 0 0)
  have hK2 := hK1.fr hF (by simpa using fun h => hne h.symm)
  have hset := Fr.set wf ⟨bK, 0, none⟩ (.bool false)
  have hP3 := hP2.fr hset (by simpa using hne)
  have hK3 := hK2.set (.bool false)
  have hFF : Fr [bP, bK] w (wf.setCell ⟨bK, 0, none⟩ (.bool false)) := (((Fr.of_kp hk1).mono (by simp)).trans (hF.mono (by simp))).trans (hset.mono (by simp))
  rw [hwf] at hP3 hK3 hFF
  have Hfin := Lib.hid (And.intro hFF (And.intro hP3 hK3))
  obtain ⟨c0, c1, c2, c3, f0, f1, f2, f3⟩ := hP1
  obtain ⟨k0, k1⟩ := hK1
  clear hF hP2 hK2 hset hP3 hK3 hFF hk1 hwf
  go_wp2_with fail
  simp [bodyPostS, results, Tryz.results82]
  exact Hfin.out
end Go.Proofs.YtbdphdgomcabmaaGreatDoor
