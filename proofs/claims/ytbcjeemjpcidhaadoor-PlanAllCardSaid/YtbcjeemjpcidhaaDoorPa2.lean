/- Parts of the walks and plain laws, merged: Check, Law, PatO, Loads, EqP, PatP, TxtC, TxtD, StrsP. Each theorem bears its own conditions; no other. -/
import Derived.Test.YtbcjeemjpcidhaaDoorShaped
import Derived.Test.YtbcjeemjpcidhaaDoorCards
import Derived.Test.YtbcjeemjpcidhaaDoorTie
import Derived.ProofKit
import Derived.OpenShut
import Derived.Deep.DeepHandedRow
import Derived.Stop.LaidErr
import Derived.Lay
import Derived.Deep.SlicePairs
import Derived.Test.YtbcjeemjpcidhaaDoorPa1
import Derived.ChangeKeysEq
import Derived.DeepKeys
import Derived.Laws.StructEq
import Derived.WalkKit
import Derived.WalkSpells
import Derived.WalkLawsBesides
import Derived.BigQuiet
import Derived.Lib.Hide
import Derived.Deep.DeepFit
import Derived.Deep.RegionWith
import Derived.Deep.DeepCutAuto
import Derived.Laws.CopyOwn
import Derived.StillTailTactics
import Derived.Lib.SlBytesConst
import Derived.Tactics2
import Derived.Defers
import Derived.Recover
import Derived.Laws.Pointers
namespace Go.Proofs.YtbcjeemjpcidhaaDoor
open Go.RowKit

def S0 : Nat → Bool := fun _ => false
def begunL (b0 b1 : List Int) : Nat → Bool := b1.foldl (fun S t => upd S (3 + t).toNat true) (b0.foldl (fun S t => upd S t.toNat true) S0)
def runToks (S : Nat → Bool) (f : Int) : List Int → Nat × (Nat → Bool)
  | [] => (0, S)
  | t :: r => if offL S f t r.isEmpty = 0 then runToks (tookL S f t) f r else (offL S f t r.isEmpty, S)
def runLs (S : Nat → Bool) : List Ln → Nat × (Nat → Bool)
  | [] => (0, S)
  | l :: r => if (runToks S l.1 l.2).1 = 0 then runLs (runToks S l.1 l.2).2 r else runToks S l.1 l.2
def oneWay (ls : List Ln) : Bool := ls.length == 1 && (ls[0]?).map (·.1) == some 0
def endL (S : Nat → Bool) (ls : List Ln) : Nat := if !safeL S 0 || (!oneWay ls && !safeL S 1) then 12 else 0
/-- The number of the error; 0: none. -/
def checkL (b0 b1 : List Int) (ls : List Ln) : Nat :=
  if shapedL b0 b1 ls then (if (runLs (begunL b0 b1) ls).1 = 0 then endL (runLs (begunL b0 b1) ls).2 ls else (runLs (begunL b0 b1) ls).1) else 9

theorem okB_mem {l : List Int} (h : okB l = true) : ∀ j (hj : j < l.length), l[j] = 1 ∨ l[j] = 2 := by
  match l, h with
  | [], _ => intro j hj; simp at hj
  | [x], h => intro j hj; obtain rfl : j = 0 := by simpa using hj
              simpa [okB] using h
  | [x, y], h =>
    intro j hj
    simp only [okB, Bool.and_eq_true, beq_iff_eq] at h
    obtain ⟨rfl, rfl⟩ := h
    rcases (show j = 0 ∨ j = 1 by simp at hj; omega) with rfl | rfl
    · left; rfl
    · right; rfl
  | _ :: _ :: _ :: _, h => simp [okB] at h

theorem linesOk_mem {ls : List Ln} : ∀ {prev : Option Int} {n : Nat}, linesOk prev n ls = true → ∀ j (h : j < ls.length), (ls[j].1 = 0 ∨ ls[j].1 = 1) ∧ 0 < ls[j].2.length ∧ ∀ i (hi : i < ls[j].2.length), 1 ≤ ls[j].2[i] ∧ ls[j].2[i] ≤ 7 := by
  induction ls with
  | nil => intro _ _ _ j h; simp at h
  | cons l r ih =>
    intro prev n hl j h
    simp only [linesOk, Bool.and_eq_true] at hl
    obtain ⟨⟨⟨h1, h2⟩, h3⟩, h4⟩ := hl
    rcases j with _ | j
    · simp only [headOk, Bool.and_eq_true, Bool.or_eq_true, beq_iff_eq, bne_iff_ne] at h1
      refine ⟨h1.1.1, by have := h1.2; simp only [List.getElem_cons_zero]; omega, fun i hi => ?_⟩
      have := List.all_eq_true.1 h2 _ (List.getElem_mem hi)
      simpa using this
    · exact ih h4 j (by simpa using h)
theorem shapedL_mem {b0 b1 : List Int} {ls : List Ln} (h : shapedL b0 b1 ls = true) : okB b0 = true ∧ okB b1 = true ∧ 0 < ls.length ∧ ∀ j (h : j < ls.length), (ls[j].1 = 0 ∨ ls[j].1 = 1) ∧ 0 < ls[j].2.length ∧ ∀ i (hi : i < ls[j].2.length), 1 ≤ ls[j].2[i] ∧ ls[j].2[i] ≤ 7 := by
  simp only [shapedL, Bool.and_eq_true, bne_iff_ne] at h
  exact ⟨h.1.1.1, h.1.1.2, by omega, linesOk_mem h.2⟩

def foldSet (S : Nat → Bool) (d : Int) (l : List Int) : Nat → Bool := l.foldl (fun S t => upd S (d + t).toNat true) S
theorem foldSet_succ (S : Nat → Bool) (d : Int) (l : List Int) (k : Nat) (h : k < l.length) : foldSet S d (l.take (k + 1)) = upd (foldSet S d (l.take k)) (d + l[k]).toNat true := by
  unfold foldSet
  rw [take_step l k h, List.foldl_append]; rfl
theorem begunL_eq (b0 b1 : List Int) : begunL b0 b1 = foldSet (foldSet S0 0 b0) 3 b1 := by
  unfold begunL foldSet
  simp only [Int.zero_add]
theorem runToks_at (S : Nat → Bool) (f : Int) (ts : List Int) (j : Nat) (h : j < ts.length) : runToks S f (ts.drop j) = if offL S f ts[j] (j + 1 == ts.length) = 0 then runToks (tookL S f ts[j]) f (ts.drop (j + 1)) else (offL S f ts[j] (j + 1 == ts.length), S) := by
  rw [drop_cons ts j h, runToks]
  have : (ts.drop (j + 1)).isEmpty = (j + 1 == ts.length) := by
    rw [Bool.eq_iff_iff]; simp; omega
  rw [this]
theorem runLs_at (S : Nat → Bool) (ls : List Ln) (k : Nat) (h : k < ls.length) : runLs S (ls.drop k) = if (runToks S ls[k].1 ls[k].2).1 = 0 then runLs (runToks S ls[k].1 ls[k].2).2 (ls.drop (k + 1)) else runToks S ls[k].1 ls[k].2 := by
  rw [drop_cons ls k h, runLs]

theorem kp_step2 {w0 w w' : World} {b : Nat} (hk : Kp w0 w) (k : Fr [b] w w') (h : w0.heap.size < b) : Kp w0 w' := ((Fr.of_kp hk).step k (fun j hj => .inr (by simp only [List.mem_singleton] at hj; omega))).kp
theorem newWalk (w : World) : WalkAt (w.alloc (.cells #[.bool false, .bool false, .bool false, .bool false, .bool false, .bool false, .bool false, .bool false, .bool false, .bool false, .bool false, .bool false, .bool false, .bool false] 82)) w.heap.size S0 := fun j hj => by
  constructor
  · rw [World.cell?_alloc_at _ _ _ _ rfl]
    rcases (show j = 0 ∨ j = 1 ∨ j = 2 ∨ j = 3 ∨ j = 4 ∨ j = 5 ∨ j = 6 ∨ j = 7 ∨ j = 8 ∨ j = 9 ∨ j = 10 ∨ j = 11 ∨ j = 12 ∨ j = 13 by omega) with rfl | rfl | rfl | rfl | rfl | rfl | rfl | rfl | rfl | rfl | rfl | rfl | rfl | rfl <;> rfl
  · exact World.frozen?_alloc_at _ _ _ _ rfl

set_option maxRecDepth 100000 in
set_option maxHeartbeats 4000000 in
theorem check_any (w : World) (E : Nat → Addr) (hE : Errs w E) (nm : ByteArray) (a0 a1 al : Option Addr) (n0 c0 n1 c1 nl cl : Nat) (b0 b1 : List Int) (ls : List Ln) (h0 : Is w a0 n0 b0) (h1 : Is w a1 n1 b1) (hl : Lns w al nl ls) :
    Calls Tryd.prog 14 #[.agg #[.string nm, .slice a0 n0 c0, .slice a1 n1 c1, .slice al nl cl]] w fun e w' => e = .returned (errV E (checkL b0 b1 ls)) ∧ Kp w w' := by
  have hnl := hl.2.1
  have Hll := Lib.hid hl.1
  have hnew : ∀ j v, [Value.string nm, .slice a0 n0 c0, .slice a1 n1 c1, .slice al nl cl][j]? = some v → (w.alloc (.cells #[.string nm, .slice a0 n0 c0, .slice a1 n1 c1, .slice al nl cl] 29)).cell? ⟨w.heap.size, j, none⟩ = some v := by
    intro j v hv
    rw [World.cell?_alloc_at _ _ _ _ rfl]
    simpa using hv
  have Hnew := Lib.hid hnew; clear hnew
  have i0 : ∀ w, (Instr.index 26 (.agg #[.slice a0 n0 c0, .slice a1 n1 c1]) (.int .i64 0)).run Tryd.prog w = .ok (.slice a0 n0 c0) w := fun _ => by kernel_rfl
  have i1 : ∀ w, (Instr.index 26 (.agg #[.slice a0 n0 c0, .slice a1 n1 c1]) (.int .i64 1)).run Tryd.prog w = .ok (.slice a1 n1 c1) w := fun _ => by kernel_rfl
  go_enter Tryd.func14, Tryd.ntmps14
  go_wp2_with fail
  (with_reducible refine (shaped_any _ nm a0 a1 al n0 c0 n1 c1 nl cl b0 b1 ls (Kp.is (Kp.new _ _) h0) (Kp.is (Kp.new _ _) h1) (Kp.lns (Kp.new _ _) hl)).mono ?_)
  rintro e w1 ⟨rfl, hk1⟩
  have hkw := Kp.trans (Kp.new _ _) hk1
  have hE1 := Kp.errs hkw hE
  cases hs : shapedL b0 b1 ls with
  | false =>
    have HF := Lib.hid (show checkL b0 b1 ls = 9 by unfold checkL; rw [hs]; rfl)
    have e9 := hE1.1
    clear hs
    go_wp2_with fail
    go_ret
    exact ⟨by rw [HF.out]; rfl, hkw⟩
  | true =>
    obtain ⟨hb0, hb1, hl0, hmem⟩ := shapedL_mem hs
    have HF := Lib.hid (show checkL b0 b1 ls = if (runLs (begunL b0 b1) ls).1 = 0 then endL (runLs (begunL b0 b1) ls).2 ls else (runLs (begunL b0 b1) ls).1 by unfold checkL; rw [hs]; rfl)
    have y1 := fun o => Kp.cell (Kp.new w1 o) (Kp.cell hk1 (Hnew.out 1 _ rfl))
    have y2 := fun o => Kp.cell (Kp.new w1 o) (Kp.cell hk1 (Hnew.out 2 _ rfl))
    have y3 := fun o => Kp.cell (Kp.new w1 o) (Kp.cell hk1 (Hnew.out 3 _ rfl))
    have Hb0 := Lib.hid (okB_mem hb0)
    have Hb1 := Lib.hid (okB_mem hb1)
    have Hmem := Lib.hid hmem
    clear hs hb0 hb1 hmem
    go_wp2_with fail
    have hW := newWalk w1
    have hlt1 : w.heap.size < w1.heap.size := by have := hk1.size; simp at this; omega
    have hkb := Kp.trans hkw (Kp.new w1 (.cells #[.bool false, .bool false, .bool false, .bool false, .bool false, .bool false, .bool false, .bool false, .bool false, .bool false, .bool false, .bool false, .bool false, .bool false] 82))
    have y1 := y1 (.cells #[.bool false, .bool false, .bool false, .bool false, .bool false, .bool false, .bool false, .bool false, .bool false, .bool false, .bool false, .bool false, .bool false, .bool false] 82)
    have y2 := y2 (.cells #[.bool false, .bool false, .bool false, .bool false, .bool false, .bool false, .bool false, .bool false, .bool false, .bool false, .bool false, .bool false, .bool false, .bool false] 82)
    have y3 := y3 (.cells #[.bool false, .bool false, .bool false, .bool false, .bool false, .bool false, .bool false, .bool false, .bool false, .bool false, .bool false, .bool false, .bool false, .bool false] 82)
    obtain ⟨bw, hbw⟩ : ∃ x, x = w1.heap.size := ⟨_, rfl⟩
    rw [← hbw] at hW hlt1 ⊢
    clear hbw
    generalize w1.alloc (.cells #[.bool false, .bool false, .bool false, .bool false, .bool false, .bool false, .bool false, .bool false, .bool false, .bool false, .bool false, .bool false, .bool false, .bool false] 82) = wb at *
    have hfar : ∀ w', Fr [bw] wb w' → Kp w w' := fun w' h => kp_step2 hkb h hlt1
    have Hfar := Lib.hid hfar; clear hfar
    go_loopw [22] (fun i wr => ∃ k : Nat, k ≤ 2 ∧ i = .int .i64 k ∧ Fr [bw] wb wr ∧ WalkAt wr bw (if k = 0 then S0 else if k = 1 then foldSet S0 0 b0 else foldSet (foldSet S0 0 b0) 3 b1)) (fun i _ => 2 - (intOf i).toNat)
    case atStart => exact ⟨0, by omega, rfl, Fr.refl _ _, hW⟩
    case round =>
      clear hW
      obtain ⟨k, hk, rfl, hF, hW⟩ := hrel
      rcases (show k = 0 ∨ k = 1 ∨ k = 2 by omega) with rfl | rfl | rfl
      · rw [if_pos rfl] at hW
        have hI := Kp.is (Hfar.out _ hF) h0
        have hlen : b0.length = n0 := h0.1
        have hnn : n0 ≤ 9223372036854775807 := h0.2.1
        have Hlen := Lib.hid hlen; clear hlen
        have hW0 : WalkAt wr bw (foldSet S0 0 (b0.take 0)) := hW
        clear hW
        go_wp2_with fail
        obtain ⟨wo, rfl⟩ : ∃ wo : World, wo = wr := ⟨_, rfl⟩
        go_loopw [28] (fun i wr => ∃ j : Nat, j ≤ n0 ∧ i = .int .i64 j ∧ Fr [bw] wb wr ∧ WalkAt wr bw (foldSet S0 0 (b0.take j))) (fun i _ => n0 - (intOf i).toNat)
        case atStart => exact ⟨0, by omega, rfl, hF, hW0⟩
        case round =>
          clear hW0 hF hI
          obtain ⟨j, hj, rfl, hF, hW⟩ := hrel
          have hI := Kp.is (Hfar.out _ hF) h0
          by_cases hjn : j < n0
          · obtain ⟨tb, toff, rfl, _, hcc⟩ := hI.at j hjn
            have hck := hcc j hjn
            have hjl : j < b0.length := by rw [Hlen.out]; exact hjn
            have hsucc := foldSet_succ S0 0 b0 j hjl
            have hval := Hb0.out j hjl
            clear hcc
            generalize b0[j]'hjl = t at hck hsucc hval
            have Hsucc := Lib.hid hsucc; clear hsucc
            rcases hval with rfl | rfl
            · have c := (hW 1 (by omega)).1
              have z := (hW 1 (by omega)).2
              have hW2 := hW.set 1 (by omega)
              have hF2 := hF.trans (Fr.set wr ⟨bw, 1, none⟩ (.bool true))
              go_wp2_with fail
              go_roundw
              case rel => exact ⟨j + 1, by omega, by go_num, hF2, by rw [Hsucc.out]; exact hW2⟩
              case measure => simp [intOf]; omega
            · have c := (hW 2 (by omega)).1
              have z := (hW 2 (by omega)).2
              have hW2 := hW.set 2 (by omega)
              have hF2 := hF.trans (Fr.set wr ⟨bw, 2, none⟩ (.bool true))
              go_wp2_with fail
              go_roundw
              case rel => exact ⟨j + 1, by omega, by go_num, hF2, by rw [Hsucc.out]; exact hW2⟩
              case measure => simp [intOf]; omega
          · obtain rfl : n0 = j := by omega
            rw [List.take_of_length_le (by rw [Hlen.out]; exact Nat.le_refl _)] at hW
            go_wp2_with fail
            go_roundw
            case rel => exact ⟨1, by omega, rfl, hF, hW⟩
            case measure => simp [intOf]
      · rw [if_neg (by decide), if_pos rfl] at hW
        have hI := Kp.is (Hfar.out _ hF) h1
        have hlen : b1.length = n1 := h1.1
        have hnn : n1 ≤ 9223372036854775807 := h1.2.1
        have Hlen := Lib.hid hlen; clear hlen
        have hW0 : WalkAt wr bw (foldSet (foldSet S0 0 b0) 3 (b1.take 0)) := hW
        clear hW
        go_wp2_with fail
        obtain ⟨wo, rfl⟩ : ∃ wo : World, wo = wr := ⟨_, rfl⟩
        go_loopw [28] (fun i wr => ∃ j : Nat, j ≤ n1 ∧ i = .int .i64 j ∧ Fr [bw] wb wr ∧ WalkAt wr bw (foldSet (foldSet S0 0 b0) 3 (b1.take j))) (fun i _ => n1 - (intOf i).toNat)
        case atStart => exact ⟨0, by omega, rfl, hF, hW0⟩
        case round =>
          clear hW0 hF hI
          obtain ⟨j, hj, rfl, hF, hW⟩ := hrel
          have hI := Kp.is (Hfar.out _ hF) h1
          by_cases hjn : j < n1
          · obtain ⟨tb, toff, rfl, _, hcc⟩ := hI.at j hjn
            have hck := hcc j hjn
            have hjl : j < b1.length := by rw [Hlen.out]; exact hjn
            have hsucc := foldSet_succ (foldSet S0 0 b0) 3 b1 j hjl
            have hval := Hb1.out j hjl
            clear hcc
            generalize b1[j]'hjl = t at hck hsucc hval
            have Hsucc := Lib.hid hsucc; clear hsucc
            rcases hval with rfl | rfl
            · have c := (hW 4 (by omega)).1
              have z := (hW 4 (by omega)).2
              have hW2 := hW.set 4 (by omega)
              have hF2 := hF.trans (Fr.set wr ⟨bw, 4, none⟩ (.bool true))
              go_wp2_with fail
              go_roundw
              case rel => exact ⟨j + 1, by omega, by go_num, hF2, by rw [Hsucc.out]; exact hW2⟩
              case measure => simp [intOf]; omega
            · have c := (hW 5 (by omega)).1
              have z := (hW 5 (by omega)).2
              have hW2 := hW.set 5 (by omega)
              have hF2 := hF.trans (Fr.set wr ⟨bw, 5, none⟩ (.bool true))
              go_wp2_with fail
              go_roundw
              case rel => exact ⟨j + 1, by omega, by go_num, hF2, by rw [Hsucc.out]; exact hW2⟩
              case measure => simp [intOf]; omega
          · obtain rfl : n1 = j := by omega
            rw [List.take_of_length_le (by rw [Hlen.out]; exact Nat.le_refl _)] at hW
            go_wp2_with fail
            go_roundw
            case rel => exact ⟨2, by omega, rfl, hF, hW⟩
            case measure => simp [intOf]
      · rw [if_neg (by decide), if_neg (by decide)] at hW
        rw [← begunL_eq] at hW
        rw [show ((2 : Nat) : Int) = 2 from rfl]
        obtain ⟨wo, rfl⟩ : ∃ wo : World, wo = wr := ⟨_, rfl⟩
        have y3o := hF.cell y3 (by simp; omega)
        go_wp2_with fail
        go_loopw [44] (fun i wr => ∃ (k : Nat) (S : Nat → Bool), k ≤ nl ∧ i = .int .i64 k ∧ Fr [bw] wb wr ∧ WalkAt wr bw S ∧ runLs (begunL b0 b1) ls = runLs S (ls.drop k)) (fun i _ => nl - (intOf i).toNat)
        case atStart => exact ⟨0, begunL b0 b1, by omega, rfl, hF, hW, rfl⟩
        case round =>
          clear hW hF y3o
          obtain ⟨k, S, hk, rfl, hF, hW, hrun⟩ := hrel
          have Hrun := Lib.hid hrun; clear hrun
          by_cases hlt : k < nl
          · have hkl : k < ls.length := by rw [Hll.out]; exact hlt
            have hkr := Hfar.out _ hF
            obtain ⟨b, off, tp, tn, tc, rfl, hc1, hc2, hI, htn⟩ := hl.2.2 k hkl
            have hc1 := Kp.cell hkr hc1
            have hc2 := Kp.cell hkr hc2
            obtain ⟨hfm, htpos, htm⟩ := Hmem.out k hkl
            have hat := runLs_at S ls k hkl
            obtain ⟨f, ts, hft⟩ : ∃ f ts, ls[k] = (f, ts) := ⟨_, _, rfl⟩
            rw [hft] at hc1 hI hat hfm htpos htm
            have hI : Is w tp tn ts := hI
            have hc1 : wr.cell? ⟨b, off + k * 2, none⟩ = some (iv f) := hc1
            have hfm : f = 0 ∨ f = 1 := hfm
            have Htm := Lib.hid htm; clear htm
            have htl : ts.length = tn := hI.1
            have Htl := Lib.hid htl; clear htl
            have htpos : 0 < tn := by rw [← Htl.out]; exact htpos
            have Hat := Lib.hid hat; clear hat hft
            have HI := Lib.hid hI; clear hI
            have hWq := fun o => Kp.walk (Kp.new wr o) hW
            have HWq := Lib.hid hWq; clear hWq
            have hlt2 : bw < wr.heap.size := World.block_lt_of_cell? wr _ (hW 0 (by omega)).1
            go_wp2_with fail
            have hkn := Kp.new wr (.cells #[iv f, .slice tp tn tc] 60)
            have hd0 : (wr.alloc (.cells #[iv f, .slice tp tn tc] 60)).cell? ⟨wr.heap.size, 0, none⟩ = some (iv f) := by rw [World.cell?_alloc_at _ _ _ _ rfl]; rfl
            have hd1 : (wr.alloc (.cells #[iv f, .slice tp tn tc] 60)).cell? ⟨wr.heap.size, 1, none⟩ = some (.slice tp tn tc) := by rw [World.cell?_alloc_at _ _ _ _ rfl]; rfl
            have hWq := HWq.out (.cells #[iv f, .slice tp tn tc] 60)
            have hFq := hF.trans ((Fr.of_kp hkn).mono (Y := [bw]) (by simp))
            obtain ⟨bn, hbn⟩ : ∃ x, x = wr.heap.size := ⟨_, rfl⟩
            rw [← hbn] at hd0 hd1 hlt2 ⊢
            clear hbn HWq
            generalize wr.alloc (.cells #[iv f, .slice tp tn tc] 60) = wq at *
            go_loopw [51] (fun i wv => ∃ (j : Nat) (S' : Nat → Bool), j ≤ tn ∧ i = .int .i64 j ∧ Fr [bw] wq wv ∧ WalkAt wv bw S' ∧ runToks S f ts = runToks S' f (ts.drop j)) (fun i _ => tn - (intOf i).toNat)
            case atStart => exact ⟨0, S, by omega, rfl, Fr.refl _ _, hWq, rfl⟩
            case round =>
              clear hWq
              obtain ⟨j, S', hj, rfl, hF', hW', hrt⟩ := hrel
              have Hrt := Lib.hid hrt; clear hrt
              have hFa := hFq.trans hF'
              have hka := Hfar.out _ hFa
              by_cases hjt : j < tn
              · have hjl : j < ts.length := by rw [Htl.out]; exact hjt
                have hE2 := Kp.errs hka hE
                have hd0 := hF'.cell hd0 (by simp; omega)
                have hd1 := hF'.cell hd1 (by simp; omega)
                obtain ⟨tb, toff, rfl, _, hcc⟩ := (Kp.is hka HI.out).at j hjt
                have hck := hcc j hjt
                have hat2 := runToks_at S' f ts j hjl
                obtain ⟨ht1, ht7⟩ := Htm.out j hjl
                obtain ⟨L, hL⟩ : ∃ L, L = (j + 1 == ts.length) := ⟨_, rfl⟩
                rw [← hL] at hat2
                have hb : ((j : Int) == (tn : Int) - 1) = L := by
                  rw [hL, Htl.out, Bool.eq_iff_iff]; simp; omega
                clear hcc hL
                generalize ts[j]'hjl = t at hck hat2 ht1 ht7
                have Hat2 := Lib.hid hat2; clear hat2
                go_wp2_with fail
                (with_reducible refine (takes_any _ E hE2 bw S' hW' f t hfm ht1 ht7 L).mono ?_)
                rintro e w5 ⟨rfl, hF5, hW5⟩
                by_cases hc : offL S' f t L = 0
                · have hW6 := hW5 hc
                  have hrt2 : runToks S f ts = runToks (tookL S' f t) f (ts.drop (j + 1)) := by rw [Hrt.out, Hat2.out, if_pos hc]
                  rw [show errV E (offL S' f t L) = .nilIface by rw [hc]; rfl]
                  have Hrt2 := Lib.hid hrt2
                  clear hW5 hrt2 hc
                  go_wp2_with fail
                  go_roundw
                  case rel => exact ⟨j + 1, tookL S' f t, by omega, by go_num, hF'.trans hF5, hW6, Hrt2.out⟩
                  case measure => simp [intOf]; omega
                · have hk5 := Hfar.out _ (hFa.trans hF5)
                  have HF2 := Lib.hid (show checkL b0 b1 ls = offL S' f t L by
                    have h2 : runToks S f ts = (offL S' f t L, S') := by rw [Hrt.out, Hat2.out, if_neg hc]
                    have h3 : runLs (begunL b0 b1) ls = (offL S' f t L, S') := by rw [Hrun.out, Hat.out, h2]; exact if_neg hc
                    rw [HF.out, h3]; exact if_neg hc)
                  rw [show errV E (offL S' f t L) = .iface 154 (.pointer (some (E (offL S' f t L)))) from if_neg hc]
                  have Hc := Lib.hid hc
                  clear hW5 hc
                  go_wp2_with fail
                  go_ret
                  exact ⟨by rw [HF2.out]; unfold errV; rw [if_neg Hc.out]; rfl, hk5⟩
              · obtain rfl : j = tn := by omega
                have hrt2 : runLs (begunL b0 b1) ls = runLs S' (ls.drop (k + 1)) := by
                  have h2 : runToks S f ts = (0, S') := by rw [Hrt.out, List.drop_of_length_le (by rw [Htl.out]; exact Nat.le_refl _)]; rfl
                  rw [Hrun.out, Hat.out, h2]; rfl
                have Hrt2 := Lib.hid hrt2; clear hrt2
                go_wp2_with fail
                go_roundw
                case rel => exact ⟨k + 1, S', by omega, by go_num, hFa, hW', Hrt2.out⟩
                case measure => simp [intOf]; omega
          · obtain rfl : k = ls.length := by rw [Hll.out]; omega
            obtain rfl : nl = ls.length := Hll.out.symm
            have hkr := Hfar.out _ hF
            have y3 := hF.cell y3 (by simp; omega)
            have HF2 := Lib.hid (show checkL b0 b1 ls = endL S ls by
              have h3 : runLs (begunL b0 b1) ls = (0, S) := by rw [Hrun.out, List.drop_of_length_le (Nat.le_refl _)]; rfl
              rw [HF.out, h3]; rfl)
            have hE2 := Kp.errs hkr hE
            obtain ⟨b, off, tp, tn, tc, rfl, hc1, hc2, hI, htn⟩ := hl.2.2 0 hl0
            have hc1 := Kp.cell hkr hc1
            rw [Nat.zero_mul, Nat.add_zero] at hc1
            have hone : oneWay ls = (ls.length == 1 && ls[0].1 == 0) := by
              unfold oneWay
              rw [List.getElem?_eq_getElem hl0]; rfl
            generalize ls[0].1 = g at hc1 hone
            have Hone := Lib.hid hone; clear hone
            clear hI htn hc2
            go_upto_region 24 with fail
            go_cut [13] (fun v wc => v = .bool (oneWay ls) ∧ wr = wc)
            case first =>
              by_cases hl1 : ls.length = 1
              · have hb : ((ls.length : Int) == 1) = true := by simp; omega
                have HO := Lib.hid (show oneWay ls = (g == 0) by rw [Hone.out, hl1]; rfl)
                clear hl1
                go_wp2_with fail
                go_meet
                case rel => exact ⟨by rw [HO.out], rfl⟩
              · have hb : ((ls.length : Int) == 1) = false := by simp; omega
                have HO := Lib.hid (show oneWay ls = false by rw [Hone.out, beq_false_of_ne hl1]; rfl)
                clear hl1
                go_wp2_with fail
                go_meet
                case rel => exact ⟨by rw [HO.out], rfl⟩
            case rest =>
              obtain ⟨rfl, rfl⟩ := hcut
              have e12 := hE2.2.2.2
              go_wp2_with fail
              (with_reducible refine (safe_any _ bw S 0 (by omega) hW).mono ?_)
              rintro e w6 ⟨rfl, rfl⟩
              cases hs0 : safeL S 0 with
              | false =>
                have HF3 := Lib.hid (show checkL b0 b1 ls = 12 by rw [HF2.out]; unfold endL; rw [hs0]; rfl)
                clear hs0
                go_wp2_with fail
                go_ret
                exact ⟨by rw [HF3.out]; rfl, hkr⟩
              | true =>
                cases how : oneWay ls with
                | true =>
                  have HF3 := Lib.hid (show checkL b0 b1 ls = 0 by rw [HF2.out]; unfold endL; rw [hs0, how]; rfl)
                  clear hs0 how
                  go_wp2_with fail
                  go_ret
                  exact ⟨by rw [HF3.out]; rfl, hkr⟩
                | false =>
                  have HF3 := Lib.hid (show checkL b0 b1 ls = if safeL S 1 then 0 else 12 by rw [HF2.out]; unfold endL; rw [hs0, how]; cases safeL S 1 <;> rfl)
                  clear hs0 how
                  go_wp2_with fail
                  (with_reducible refine (safe_any _ bw S 1 (by omega) hW).mono ?_)
                  rintro e w7 ⟨rfl, rfl⟩
                  cases hs1 : safeL S 1 with
                  | false =>
                    have HF4 := Lib.hid (show checkL b0 b1 ls = 12 by rw [HF3.out, hs1]; rfl)
                    clear hs1
                    go_wp2_with fail
                    go_ret
                    exact ⟨by rw [HF4.out]; rfl, hkr⟩
                  | true =>
                    have HF4 := Lib.hid (show checkL b0 b1 ls = 0 by rw [HF3.out, hs1]; rfl)
                    clear hs1
                    go_wp2_with fail
                    go_ret
                    exact ⟨by rw [HF4.out]; rfl, hkr⟩
end Go.Proofs.YtbcjeemjpcidhaaDoor

namespace Go.Proofs.YtbcjeemjpcidhaaDoor
open Go.ChangeShapes Go.WideShapes Go.RowKit

theorem trodAll_stays {H : Type} {enc : TypeId × Value → H} {P : Program} (hl : laidOutB P = true) {W W' : World} (hb : Kp W W') : ∀ {ts : List TypeId} {vs : List Value} {ds : List (DataW H)} {ps : List MemPlace},
    (∀ t ∈ ts, P.readableRec t = true ∧ t < P.types.size) → DataW.TrodAll enc P W 0 (fun _ => true) true ts vs ds ps → (∀ x ∈ ps, x.block < W.heap.size) →
    DataW.TrodAll enc P W' 0 (fun b => decide (b < W.heap.size)) true ts vs ds ps
  | [], [], [], _, _, h, _ => h
  | t :: ts, v :: vs, d :: ds, ps, ht, h, hlt => by
    obtain ⟨p, q, h1, h2, rfl⟩ := h
    have h3 := ht t (by simp)
    exact ⟨p, q, Below.trod hl h3.1 h3.2 h1 hb (fun x hx => hlt x (by simp [hx])), trodAll_stays hl hb (fun t' ht' => ht t' (by simp [ht'])) h2 (fun x hx => hlt x (by simp [hx])), rfl⟩
  | [], [], _ :: _, _, _, h, _ => h.elim
  | [], _ :: _, _, _, _, h, _ => by cases h
  | _ :: _, [], _, _, _, h, _ => by cases h
  | _ :: _, _ :: _, [], _, _, h, _ => by cases h

theorem law_post {H : Type} {enc : TypeId × Value → H} {P : Program} {fn : Func} {s : ChangeSpec} {W W' : World} {args : Array Value} {ds gs : List (DataW H)} {before : List MemPlace} {bt : TypeId}
    (hl : laidOutB P = true) (htb : (fn.params.toList.all fun t => P.readableRec t && decide (t < P.types.size)) = true) (hv : s.vars = []) (hres : fn.resultTypes = #[bt]) (hbt : P.underlying bt = some .bool)
    (hW : DataW.Whole enc P fn.params.toList s.vars false W args.toList ds gs before) (hs : s.fn H (ds ++ []) = { results := [.lit (.bool true)], args := ds }) (hk : Kp W W') :
    s.post enc P fn false true false false W args (.bool true) W' := by
  have hts : ∀ t ∈ fn.params.toList, P.readableRec t = true ∧ t < P.types.size := fun t ht => by
    have := List.all_eq_true.1 htb t ht
    simpa using this
  have hW0 := hW
  obtain ⟨p, q, hA, hV, rfl, hfz, _⟩ := hW
  rw [hv] at hV
  obtain ⟨rfl, rfl⟩ := trodVars_none hV
  have hlt : ∀ x ∈ p, x.block < W.heap.size := hA.lt
  refine ⟨ds, [], p ++ [], [], p, [], hW0, ?_, ?_, ?_, hk.frame _, fun h => by cases h⟩
  · rw [hs, hres]
    exact trodAll_mk1 (shut_bool hbt true)
  · rw [hs]
    exact trodAll_stays hl hk hts hA hlt
  · rw [hs, hv]; rfl

theorem Tryd.own : ownKnob Tryd.prog.godebug = none := by kernel_rfl
theorem cells125 : Tryd.prog.cellsOf 170 = 1 := by kernel_rfl
theorem cells9 : Tryd.prog.cellsOf 9 = 1 := by kernel_rfl
theorem star : "*" ++ "errors.errorString" = "*errors.errorString" := by decide
theorem row107 (u : TypeId) (h : Tryd.prog.typeName? 3 u = some "*errors.errorString") : u = 154 :=
  typeName_ptr_named (nm := "errors.errorString") (by rw [star]; kernel_rfl) (by kernel_rfl) (by decide) u (by rw [star]; exact h)

theorem Tryd.laidOut : laidOutB Tryd.prog = true := by kernel_rfl
end Go.Proofs.YtbcjeemjpcidhaaDoor

namespace Go.Proofs.YtbcjeemjpcidhaaDoor
open Go.RowKit

/-- A slice's parts. -/
structure Tv where
  ao : Option Addr
  n : Nat
  c : Nat
def tvv (t : Tv) : Value := .slice t.ao t.n t.c
/-- The cells of a list of messages. -/
def lnc : List Ln → List Tv → List Value
  | l :: r, t :: s => iv l.1 :: tvv t :: lnc r s
  | _, _ => []
theorem lnc_length : ∀ {ls : List Ln} {ts : List Tv}, ts.length = ls.length → (lnc ls ts).length = ls.length * 2
  | [], [], _ => rfl
  | l :: r, t :: s, h => by
    simp only [lnc, List.length_cons] at h ⊢
    rw [lnc_length (by omega)]; omega
theorem lnc_append : ∀ {ls : List Ln} {ts : List Tv} (l : Ln) (t : Tv), ts.length = ls.length → lnc (ls ++ [l]) (ts ++ [t]) = lnc ls ts ++ [iv l.1, tvv t]
  | [], [], _, _, _ => rfl
  | l :: r, t :: s, l', t', h => by
    simp only [List.length_cons] at h
    simp only [lnc, List.cons_append]
    rw [lnc_append l' t' (by omega)]
theorem lnc_get : ∀ {ls : List Ln} {ts : List Tv} (h : ts.length = ls.length) (j : Nat) (hj : j < ls.length), (lnc ls ts)[j * 2]? = some (iv ls[j].1) ∧ (lnc ls ts)[j * 2 + 1]? = some (tvv (ts[j]'(by omega)))
  | l :: r, t :: s, h, 0, _ => ⟨rfl, rfl⟩
  | l :: r, t :: s, h, j + 1, hj => by
    simp only [List.length_cons] at h hj
    have := lnc_get (ls := r) (ts := s) (by omega) j (by omega)
    simp only [lnc, List.getElem_cons_succ]
    rw [show (j + 1) * 2 = j * 2 + 1 + 1 by omega]
    exact this

theorem Own.is {w : World} {base : Nat} {e : TypeId} {ao : Option Addr} {n cap : Nat} {xs : List Int} (h : Own w base e 1 ao n cap (xs.map iv)) : Is w ao n xs := by
  have hl := h.1
  refine ⟨by simpa using hl, ?_, h.cs⟩
  rcases h.2 with ⟨_, hn⟩ | ⟨g, cap', cur, hv, _, _, h1, h2, _⟩
  · omega
  · exact Nat.le_trans h1 h2
theorem Own.store {w : World} {base : Nat} {e : TypeId} {size : Nat} {g : Nat} {n cap : Nat} {xs : List Value} (h : Own w base e size (some ⟨g, 0, none⟩) n cap xs) (j : Nat) (u : Value) :
    Own (w.setCell ⟨g, j, none⟩ u) base e size (some ⟨g, 0, none⟩) n cap (xs.set j u) := (World.ownsRow.stored h j u).1
theorem Own.cell {w : World} {base : Nat} {e : TypeId} {size : Nat} {g : Nat} {n cap : Nat} {xs : List Value} (h : Own w base e size (some ⟨g, 0, none⟩) n cap xs) (j : Nat) (hj : j < n * size) : w.cell? ⟨g, j, none⟩ = xs[j]? := World.ownsRow.cellAt h j hj
theorem Own.free {w : World} {base : Nat} {e : TypeId} {size : Nat} {g : Nat} {n cap : Nat} {xs : List Value} (h : Own w base e size (some ⟨g, 0, none⟩) n cap xs) (j : Nat) : w.frozen? ⟨g, j, none⟩ = false := World.ownsRow.frozenAt h j

theorem getD_lt {α : Type} (l : List α) (d : α) {i : Nat} (h : i < l.length) : l.getD i d = l[i] := by simp [List.getD_eq_getElem?_getD, List.getElem?_eq_getElem h]
theorem getD_ge {α : Type} (l : List α) (d : α) {i : Nat} (h : l.length ≤ i) : l.getD i d = d := by simp [List.getD_eq_getElem?_getD, List.getElem?_eq_none h]
def nilT : Tv := ⟨none, 0, 0⟩
/-- No two rows lie in one block. -/
def Disj (rows : List Tv) : Prop := ∀ i j x, x ∈ blkL (rows.getD i nilT).ao → x ∈ blkL (rows.getD j nilT).ao → i = j
theorem Disj.upd {rows rows' : List Tv} {s k : Nat} (h : Disj rows) (hlt : ∀ i, i ≠ k → ∀ x ∈ blkL (rows.getD i nilT).ao, x < s) (heq : ∀ i, i ≠ k → rows'.getD i nilT = rows.getD i nilT)
    (hk : ∀ x ∈ blkL (rows'.getD k nilT).ao, x ∈ blkL (rows.getD k nilT).ao ∨ s ≤ x) : Disj rows' := by
  intro i j x hi hj
  by_cases h1 : i = k
  · by_cases h2 : j = k
    · rw [h1, h2]
    · subst h1
      rw [heq j h2] at hj
      rcases hk x hi with q | q
      · exact h i j x q hj
      · have := hlt j h2 x hj; omega
  · by_cases h2 : j = k
    · subst h2
      rw [heq i h1] at hi
      rcases hk x hj with q | q
      · exact h i j x hi q
      · have := hlt i h1 x hi; omega
    · rw [heq i h1] at hi
      rw [heq j h2] at hj
      exact h i j x hi hj

/-- A pattern of the call's own. -/
structure PatO (w : World) (B : Nat) (t0 t1 tl : Tv) (ts : List Tv) (b0 b1 : List Int) (ls : List Ln) : Prop where
  len : ts.length = ls.length
  o0 : Own w B 3 1 t0.ao t0.n t0.c (b0.map iv)
  o1 : Own w B 3 1 t1.ao t1.n t1.c (b1.map iv)
  ol : Own w B 60 2 tl.ao tl.n tl.c (lnc ls ts)
  ot : ∀ (j : Nat) (t : Tv) (l : Ln), ts[j]? = some t → ls[j]? = some l → Own w B 3 1 t.ao t.n t.c (l.2.map iv)
  dj : Disj (t0 :: t1 :: tl :: ts)
theorem PatO.nil (w : World) (B : Nat) : PatO w B nilT nilT nilT [] [] [] [] :=
  ⟨rfl, Own.nil _ _ _ _, Own.nil _ _ _ _, Own.nil _ _ _ _, fun j t l h => by simp at h, fun i j x hi => by
    rcases i with _ | _ | _ | i <;> simp [nilT, blkL, blk] at hi⟩
section
variable {w w' : World} {B : Nat} {t0 t1 tl : Tv} {ts : List Tv} {b0 b1 : List Int} {ls : List Ln}
theorem PatO.n0 (h : PatO w B t0 t1 tl ts b0 b1 ls) : t0.n = b0.length := by have := h.o0.1; simp at this; omega
theorem PatO.n1 (h : PatO w B t0 t1 tl ts b0 b1 ls) : t1.n = b1.length := by have := h.o1.1; simp at this; omega
theorem PatO.nl (h : PatO w B t0 t1 tl ts b0 b1 ls) : tl.n = ls.length := by have := h.ol.1; rw [lnc_length h.len] at this; omega
theorem PatO.row {i : Nat} {x : Nat} (h : PatO w B t0 t1 tl ts b0 b1 ls) (hx : x ∈ blkL ((t0 :: t1 :: tl :: ts).getD i nilT).ao) : B ≤ x ∧ x < w.heap.size := by
  rcases i with _ | _ | _ | i
  · exact h.o0.lt x (mem_blkL.1 hx)
  · exact h.o1.lt x (mem_blkL.1 hx)
  · exact h.ol.lt x (mem_blkL.1 hx)
  · simp only [List.getD_cons_succ] at hx
    by_cases hi : i < ts.length
    · have hl : i < ls.length := by rw [← h.len]; exact hi
      rw [getD_lt _ _ hi] at hx
      exact (h.ot i _ _ (List.getElem?_eq_getElem hi) (List.getElem?_eq_getElem hl)).lt x (mem_blkL.1 hx)
    · rw [getD_ge _ _ (by omega)] at hx
      simp [nilT, blkL, blk] at hx
theorem PatO.fr {X : List Nat} (h : PatO w B t0 t1 tl ts b0 b1 ls) (k : Fr X w w') (hX : ∀ x ∈ X, x < B ∨ w.heap.size ≤ x) : PatO w' B t0 t1 tl ts b0 b1 ls := by
  have hd : ∀ i, ∀ x ∈ blkL ((t0 :: t1 :: tl :: ts).getD i nilT).ao, x ∉ X := fun i x hx hq => by have := h.row hx; have := hX x hq; omega
  refine ⟨h.len, k.own h.o0 (hd 0), k.own h.o1 (hd 1), k.own h.ol (hd 2), fun j t l ht hl => k.own (h.ot j t l ht hl) (fun x hx => hd (j + 3) x ?_), h.dj⟩
  have hj := (List.getElem?_eq_some_iff.1 ht)
  obtain ⟨hj, rfl⟩ := hj
  simp only [List.getD_cons_succ]
  rw [getD_lt _ _ hj]; exact hx
theorem PatO.kp (h : PatO w B t0 t1 tl ts b0 b1 ls) (k : Kp w w') : PatO w' B t0 t1 tl ts b0 b1 ls := h.fr (Fr.of_kp k) (by simp)
theorem PatO.is0 (h : PatO w B t0 t1 tl ts b0 b1 ls) : Is w t0.ao t0.n b0 := h.o0.is
theorem PatO.is1 (h : PatO w B t0 t1 tl ts b0 b1 ls) : Is w t1.ao t1.n b1 := h.o1.is
theorem PatO.lns (h : PatO w B t0 t1 tl ts b0 b1 ls) (hn : ls.length ≤ 1000) (ht : ∀ l ∈ ls, l.2.length ≤ 1000) : Lns w tl.ao tl.n ls := by
  refine ⟨h.nl.symm, by have := h.nl; omega, fun j hj => ?_⟩
  obtain ⟨b, off, e, hc⟩ := h.ol.cs.at (j * 2) (by rw [lnc_length h.len]; omega)
  obtain ⟨g0, g1⟩ := lnc_get h.len j hj
  have hj' : j < ts.length := by rw [h.len]; exact hj
  have ho := h.ot j _ _ (List.getElem?_eq_getElem hj') (List.getElem?_eq_getElem hj)
  have h1 := ho.1
  have h2 := ht _ (List.getElem_mem hj)
  simp at h1
  exact ⟨b, off, _, _, _, e, hc _ _ g0, by have := hc _ _ g1; rwa [← Nat.add_assoc] at this, ho.is, by omega⟩

/-- One row has grown; the others are as they were. -/
theorem PatO.others {k : Nat} (h : PatO w B t0 t1 tl ts b0 b1 ls) (_f : Fr (blkL ((t0 :: t1 :: tl :: ts).getD k nilT).ao) w w') (i : Nat) (hi : i ≠ k) : ∀ x ∈ blkL ((t0 :: t1 :: tl :: ts).getD i nilT).ao, x ∉ blkL ((t0 :: t1 :: tl :: ts).getD k nilT).ao :=
  fun x hx hq => hi (h.dj i k x hx hq)
theorem PatO.app0 {ao' : Option Addr} {cap' N : Nat} (h : PatO w B t0 t1 tl ts b0 b1 ls) (t : Int) (ha : Appd w w' B 3 1 t0.ao t0.c 1 N ((b0 ++ [t]).map iv) ao' cap') : PatO w' B ⟨ao', N, cap'⟩ t1 tl ts (b0 ++ [t]) b1 ls := by
  have f := ha.fr
  have ho := fun i hi => PatO.others (k := 0) h f i hi
  refine ⟨h.len, ha.own, f.own h.o1 (ho 1 (by simp)), f.own h.ol (ho 2 (by simp)), fun j t l ht hl => f.own (h.ot j t l ht hl) (fun x hx => ho (j + 3) (by simp) x ?_), ?_⟩
  · obtain ⟨hj, rfl⟩ := (List.getElem?_eq_some_iff.1 ht)
    simp only [List.getD_cons_succ]
    rw [getD_lt _ _ hj]; exact hx
  · refine h.dj.upd (s := w.heap.size) (k := 0) (fun i _ x hx => (h.row hx).2) (fun i hi => ?_) (fun x hx => ?_)
    · rcases i with _ | i
      · exact absurd rfl hi
      · rfl
    · rcases ha.fresh x (mem_blkL.1 hx) with q | q
      · exact .inl (mem_blkL.2 q)
      · exact .inr (by omega)
theorem PatO.app1 {ao' : Option Addr} {cap' N : Nat} (h : PatO w B t0 t1 tl ts b0 b1 ls) (t : Int) (ha : Appd w w' B 3 1 t1.ao t1.c 1 N ((b1 ++ [t]).map iv) ao' cap') : PatO w' B t0 ⟨ao', N, cap'⟩ tl ts b0 (b1 ++ [t]) ls := by
  have f := ha.fr
  have ho := fun i hi => PatO.others (k := 1) h f i hi
  refine ⟨h.len, f.own h.o0 (ho 0 (by simp)), ha.own, f.own h.ol (ho 2 (by simp)), fun j t l ht hl => f.own (h.ot j t l ht hl) (fun x hx => ho (j + 3) (by simp) x ?_), ?_⟩
  · obtain ⟨hj, rfl⟩ := (List.getElem?_eq_some_iff.1 ht)
    simp only [List.getD_cons_succ]
    rw [getD_lt _ _ hj]; exact hx
  · refine h.dj.upd (s := w.heap.size) (k := 1) (fun i _ x hx => (h.row hx).2) (fun i hi => ?_) (fun x hx => ?_)
    · rcases i with _ | _ | i
      · rfl
      · exact absurd rfl hi
      · rfl
    · rcases ha.fresh x (mem_blkL.1 hx) with q | q
      · exact .inl (mem_blkL.2 q)
      · exact .inr (by omega)
/-- One message more, with no token yet. -/
theorem PatO.appl {ao' : Option Addr} {cap' N : Nat} (h : PatO w B t0 t1 tl ts b0 b1 ls) (f : Int) (ha : Appd w w' B 60 2 tl.ao tl.c 1 N (lnc (ls ++ [(f, [])]) (ts ++ [nilT])) ao' cap') : PatO w' B t0 t1 ⟨ao', N, cap'⟩ (ts ++ [nilT]) b0 b1 (ls ++ [(f, [])]) := by
  have fr := ha.fr
  have ho := fun i hi => PatO.others (k := 2) h fr i hi
  refine ⟨by simp [h.len], fr.own h.o0 (ho 0 (by simp)), fr.own h.o1 (ho 1 (by simp)), ha.own, fun j t l ht hl => ?_, ?_⟩
  · rcases Nat.lt_or_ge j ts.length with hj | hj
    · rw [List.getElem?_append_left hj] at ht
      rw [List.getElem?_append_left (by rw [← h.len]; exact hj)] at hl
      refine fr.own (h.ot j t l ht hl) (fun x hx => ho (j + 3) (by simp) x ?_)
      obtain ⟨hj, rfl⟩ := (List.getElem?_eq_some_iff.1 ht)
      simp only [List.getD_cons_succ]
      rw [getD_lt _ _ hj]; exact hx
    · rw [List.getElem?_append_right hj] at ht
      rw [List.getElem?_append_right (by rw [← h.len]; exact hj)] at hl
      have e1 := List.mem_of_getElem? ht
      have e2 := List.mem_of_getElem? hl
      simp at e1 e2
      subst e1; subst e2
      exact Own.nil _ _ _ _
  · refine h.dj.upd (s := w.heap.size) (k := 2) (fun i _ x hx => (h.row hx).2) (fun i hi => ?_) (fun x hx => ?_)
    · rcases i with _ | _ | _ | i
      · rfl
      · rfl
      · exact absurd rfl hi
      · simp only [List.getD_cons_succ]
        rw [List.getD_eq_getElem?_getD, List.getD_eq_getElem?_getD]
        rcases Nat.lt_or_ge i ts.length with hj | hj
        · rw [List.getElem?_append_left hj]
        · rw [List.getElem?_append_right hj, List.getElem?_eq_none hj]
          rcases Nat.eq_zero_or_pos (i - ts.length) with h0 | h0
          · rw [h0]; rfl
          · rw [List.getElem?_eq_none (by simp; omega)]
    · rcases ha.fresh x (mem_blkL.1 hx) with q | q
      · exact .inl (mem_blkL.2 q)
      · exact .inr (by omega)
end

theorem lnc_last (ls : List Ln) (ts : List Tv) (f : Int) (xs ys : List Int) (t t' : Tv) (h : ts.length = ls.length) : (lnc (ls ++ [(f, xs)]) (ts ++ [t])).set (ls.length * 2 + 1) (tvv t') = lnc (ls ++ [(f, ys)]) (ts ++ [t']) := by
  rw [lnc_append _ _ h, lnc_append _ _ h, List.set_append_right _ _ (by rw [lnc_length h]; omega), lnc_length h, show ls.length * 2 + 1 - ls.length * 2 = 1 by omega]
  rfl
/-- A token more in the last message: its list has grown, and then its place among the messages. -/
theorem PatO.appt {w w' : World} {B : Nat} {t0 t1 : Tv} {ts : List Tv} {b0 b1 : List Int} {ls : List Ln} {g nl cl : Nat} {t : Tv} {f : Int} {xs : List Int} {ao' : Option Addr} {cap' N : Nat}
    (h : PatO w B t0 t1 ⟨some ⟨g, 0, none⟩, nl, cl⟩ (ts ++ [t]) b0 b1 (ls ++ [(f, xs)])) (x : Int) (ha : Appd w w' B 3 1 t.ao t.c 1 N ((xs ++ [x]).map iv) ao' cap') :
    PatO (w'.setCell ⟨g, ls.length * 2 + 1, none⟩ (tvv ⟨ao', N, cap'⟩)) B t0 t1 ⟨some ⟨g, 0, none⟩, nl, cl⟩ (ts ++ [⟨ao', N, cap'⟩]) b0 b1 (ls ++ [(f, xs ++ [x])]) := by
  have hlen : ts.length = ls.length := by have := h.len; simp at this; exact this
  have fr := ha.fr
  have hkey : ((t0 :: t1 :: ⟨some ⟨g, 0, none⟩, nl, cl⟩ :: (ts ++ [t])).getD (ts.length + 3) nilT) = t := by
    simp
  have ho := fun i hi => PatO.others (k := ts.length + 3) (w' := w') h (by rw [hkey]; exact fr) i hi
  rw [hkey] at ho
  have hs := Fr.set w' ⟨g, ls.length * 2 + 1, none⟩ (tvv ⟨ao', N, cap'⟩)
  have hgB := (h.row (i := 2) (x := g) (by simp [blkL, blk]))
  have hg0 : ∀ i, i ≠ 2 → ∀ y ∈ blkL ((t0 :: t1 :: ⟨some ⟨g, 0, none⟩, nl, cl⟩ :: (ts ++ [t])).getD i nilT).ao, y ∉ [g] := fun i hi y hy hq => by
    simp only [List.mem_singleton] at hq
    exact hi (h.dj i 2 y hy (by subst hq; simp [blkL, blk]))
  have hgn : ∀ y ∈ blkL ao', y ∉ [g] := fun y hy hq => by
    simp only [List.mem_singleton] at hq
    subst hq
    rcases ha.fresh y (mem_blkL.1 hy) with q | q
    · exact hg0 (ts.length + 3) (by omega) y (by rw [hkey]; exact mem_blkL.2 q) (by simp)
    · omega
  refine ⟨by simp [hlen], hs.own (fr.own h.o0 (ho 0 (by simp))) (hg0 0 (by simp)), hs.own (fr.own h.o1 (ho 1 (by simp))) (hg0 1 (by simp)), ?_, fun j t' l' ht hl => ?_, ?_⟩
  · have := (fr.own h.ol (ho 2 (by simp))).store (ls.length * 2 + 1) (tvv ⟨ao', N, cap'⟩)
    rwa [lnc_last ls ts f xs (xs ++ [x]) t ⟨ao', N, cap'⟩ hlen] at this
  · rcases Nat.lt_or_ge j ts.length with hj | hj
    · rw [List.getElem?_append_left hj] at ht
      rw [List.getElem?_append_left (by rw [← hlen]; exact hj)] at hl
      have hb : ∀ y ∈ blkL t'.ao, y ∈ blkL ((t0 :: t1 :: ⟨some ⟨g, 0, none⟩, nl, cl⟩ :: (ts ++ [t])).getD (j + 3) nilT).ao := fun y hy => by
        obtain ⟨hj', rfl⟩ := (List.getElem?_eq_some_iff.1 ht)
        simp only [List.getD_cons_succ]
        rw [getD_lt _ _ (by simp; omega), List.getElem_append_left hj']; exact hy
      refine hs.own (fr.own (h.ot j t' l' (by rw [List.getElem?_append_left hj]; exact ht) (by rw [List.getElem?_append_left (by rw [← hlen]; exact hj)]; exact hl)) (fun y hy => ho (j + 3) (by omega) y (hb y hy))) (fun y hy => hg0 (j + 3) (by omega) y (hb y hy))
    · rw [List.getElem?_append_right hj] at ht
      rw [List.getElem?_append_right (by rw [← hlen]; exact hj)] at hl
      have e1 := List.mem_of_getElem? ht
      have e2 := List.mem_of_getElem? hl
      simp only [List.mem_singleton] at e1 e2
      subst e1; subst e2
      exact hs.own ha.own hgn
  · refine h.dj.upd (s := w.heap.size) (k := ts.length + 3) (fun i _ y hy => (h.row hy).2) (fun i hi => ?_) (fun y hy => ?_)
    · rcases i with _ | _ | _ | i
      · rfl
      · rfl
      · rfl
      · simp only [List.getD_cons_succ]
        rw [List.getD_eq_getElem?_getD, List.getD_eq_getElem?_getD]
        rcases Nat.lt_or_ge i ts.length with hj | hj
        · rw [List.getElem?_append_left hj, List.getElem?_append_left hj]
        · rw [List.getElem?_eq_none (by simp; omega), List.getElem?_eq_none (by simp; omega)]
    · rw [hkey]
      simp at hy
      rcases ha.fresh y (mem_blkL.1 hy) with q | q
      · exact .inl (mem_blkL.2 q)
      · exact .inr (by omega)
end Go.Proofs.YtbcjeemjpcidhaaDoor

namespace Go.Proofs.YtbcjeemjpcidhaaDoor
open Go.RowKit

set_option maxHeartbeats 2000000 in
theorem exec_load22 {w : World} {p : Addr} {a : Option Addr} {n c : Nat} (h : w.cell? p = some (.slice a n c)) {ρ : Operand → Value} {x : Operand} (hx : ρ x = .pointer (some p)) {o : Oper} (ho : o.op = .load 25 x) : (execOp ρ o).run Tryd.prog w = .ok (.value (.slice a n c)) w := by
  simp only [execOp, ho, hx]
  go_simp
set_option maxHeartbeats 2000000 in
theorem exec_load24 {w : World} {p : Addr} {a : Option Addr} {n c : Nat} (h : w.cell? p = some (.slice a n c)) {ρ : Operand → Value} {x : Operand} (hx : ρ x = .pointer (some p)) {o : Oper} (ho : o.op = .load 27 x) : (execOp ρ o).run Tryd.prog w = .ok (.value (.slice a n c)) w := by
  simp only [execOp, ho, hx]
  go_simp
end Go.Proofs.YtbcjeemjpcidhaaDoor

namespace Go.Proofs.YtbcjeemjpcidhaaDoor
open Go.RowKit

theorem fields42 : Tryd.prog.fieldsOf 56 = #[{ name := "Op", type := 3, offset := 0, embedded := false, tag := "", pkgPath := "", byteOffset := 0 }, { name := "Key", type := 3, offset := 1, embedded := false, tag := "", pkgPath := "", byteOffset := 8 }, { name := "With", type := 3, offset := 2, embedded := false, tag := "", pkgPath := "", byteOffset := 16 }] := by
  simp [Program.fieldsOf, Tryd.underlying56]
theorem fields61 : Tryd.prog.fieldsOf 62 = #[{ name := "token", type := 3, offset := 0, embedded := false, tag := "", pkgPath := "pintle/plan", byteOffset := 0 }, { name := "sent", type := 4, offset := 1, embedded := false, tag := "", pkgPath := "pintle/plan", byteOffset := 8 }] := by
  simp [Program.fieldsOf, Tryd.underlying62]

theorem eq42_in (w : World) (d : Nat) (a b c a' b' c' : Int) : (Op.equalIn (d + 2) 56 (.agg #[.int .i64 a, .int .i64 b, .int .i64 c]) (.agg #[.int .i64 a', .int .i64 b', .int .i64 c'])).run Tryd.prog w = .ok (a == a' && (b == b' && c == c')) w := by
  have h := run_equalIn_struct w (d + 1) 56 #[.int .i64 a, .int .i64 b, .int .i64 c] #[.int .i64 a', .int .i64 b', .int .i64 c'] (by rw [fields42]; exact Tryd.underlying56) (by kernel_rfl)
  rw [h, fields42]
  have e0 := eq3 w d a a'
  have e1 := eq3 w d b b'
  have e2 := eq3 w d c c'
  have p0 := part3 w #[.int .i64 a, .int .i64 b, .int .i64 c] 0 (.int .i64 a) rfl
  have p1 := part3 w #[.int .i64 a, .int .i64 b, .int .i64 c] 1 (.int .i64 b) rfl
  have p2 := part3 w #[.int .i64 a, .int .i64 b, .int .i64 c] 2 (.int .i64 c) rfl
  have q0 := part3 w #[.int .i64 a', .int .i64 b', .int .i64 c'] 0 (.int .i64 a') rfl
  have q1 := part3 w #[.int .i64 a', .int .i64 b', .int .i64 c'] 1 (.int .i64 b') rfl
  have q2 := part3 w #[.int .i64 a', .int .i64 b', .int .i64 c'] 2 (.int .i64 c') rfl
  generalize (a == a') = x at e0 ⊢
  generalize (b == b') = y at e1 ⊢
  generalize (c == c') = z at e2 ⊢
  cases x <;> cases y <;> cases z <;> simp [Op.eqFields, p0, p1, p2, q0, q1, q2, e0, e1, e2]
theorem neq42 (w : World) (a b c a' b' c' : Int) : (binOp .neq 56 (.agg #[.int .i64 a, .int .i64 b, .int .i64 c]) (.agg #[.int .i64 a', .int .i64 b', .int .i64 c'])).run Tryd.prog w = .ok (.bool (!(a == a' && (b == b' && c == c')))) w := by
  simp only [binOp]
  simp [Op.equal, Op.maxDepth, eq42_in w 9998 a b c a' b' c']
theorem eq61 (w : World) (a a' : Int) (s s' : Bool) : (Op.equal 62 (.agg #[.int .i64 a, .bool s]) (.agg #[.int .i64 a', .bool s'])).run Tryd.prog w = .ok (a == a' && s == s') w := by
  have h := run_equalIn_struct w 9999 62 #[.int .i64 a, .bool s] #[.int .i64 a', .bool s'] (by rw [fields61]; exact Tryd.underlying62) (by kernel_rfl)
  have e0 := eq3 w 9998 a a'
  have e1 := eq4 w 9998 s s'
  have p0 := part3 w #[.int .i64 a, .bool s] 0 (.int .i64 a) rfl
  have p1 := part4 w #[.int .i64 a, .bool s] 1 (.bool s) rfl
  have q0 := part3 w #[.int .i64 a', .bool s'] 0 (.int .i64 a') rfl
  have q1 := part4 w #[.int .i64 a', .bool s'] 1 (.bool s') rfl
  simp only [Op.equal, Op.maxDepth, h, fields61]
  generalize (a == a') = x at e0 ⊢
  generalize (s == s') = y at e1 ⊢
  cases x <;> cases y <;> simp [Op.eqFields, p0, p1, q0, q1, e0, e1]
end Go.Proofs.YtbcjeemjpcidhaaDoor

namespace Go.Proofs.YtbcjeemjpcidhaaDoor
open Go.RowKit

section
variable {w w' : World} {B : Nat} {t0 t1 tl : Tv} {ts : List Tv} {b0 b1 : List Int} {ls : List Ln}
/-- A whole message more, whose tokens lie in younger memory. -/
theorem PatO.appw {ao' : Option Addr} {cap' N s : Nat} {l : Ln} {t : Tv} (h : PatO w B t0 t1 tl ts b0 b1 ls) (ho : Own w B 3 1 t.ao t.n t.c (l.2.map iv))
    (hs : ∀ i, ∀ y ∈ blkL ((t0 :: t1 :: tl :: ts).getD i nilT).ao, y < s) (ht : ∀ y ∈ blkL t.ao, s ≤ y)
    (ha : Appd w w' B 60 2 tl.ao tl.c 1 N (lnc (ls ++ [l]) (ts ++ [t])) ao' cap') : PatO w' B t0 t1 ⟨ao', N, cap'⟩ (ts ++ [t]) b0 b1 (ls ++ [l]) := by
  have fr := ha.fr
  have hx := fun i hi => PatO.others (k := 2) h fr i hi
  have hn : ∀ y ∈ blkL t.ao, y ∉ blkL tl.ao := fun y hy hq => by have := ht y hy; have := hs 2 y hq; omega
  have hlt := fun y hy => ho.lt y (mem_blkL.1 hy)
  refine ⟨by simp [h.len], fr.own h.o0 (hx 0 (by simp)), fr.own h.o1 (hx 1 (by simp)), ha.own, fun j t' l' ht' hl' => ?_, ?_⟩
  · rcases Nat.lt_or_ge j ts.length with hj | hj
    · rw [List.getElem?_append_left hj] at ht'
      rw [List.getElem?_append_left (by rw [← h.len]; exact hj)] at hl'
      refine fr.own (h.ot j t' l' ht' hl') (fun x hx' => hx (j + 3) (by simp) x ?_)
      obtain ⟨hj, rfl⟩ := (List.getElem?_eq_some_iff.1 ht')
      simp only [List.getD_cons_succ]
      rw [getD_lt _ _ hj]; exact hx'
    · rw [List.getElem?_append_right hj] at ht'
      rw [List.getElem?_append_right (by rw [← h.len]; exact hj)] at hl'
      have e1 := List.mem_of_getElem? ht'
      have e2 := List.mem_of_getElem? hl'
      simp only [List.mem_singleton] at e1 e2
      subst e1; subst e2
      exact fr.own ho hn
  · have hdj : Disj (t0 :: t1 :: tl :: (ts ++ [t])) := by
      refine h.dj.upd (s := s) (k := ts.length + 3) (fun i _ => hs i) (fun i hi => ?_) (fun x hx' => ?_)
      · rcases i with _ | _ | _ | i
        · rfl
        · rfl
        · rfl
        · simp only [List.getD_cons_succ]
          rw [List.getD_eq_getElem?_getD, List.getD_eq_getElem?_getD]
          rcases Nat.lt_or_ge i ts.length with hj | hj
          · rw [List.getElem?_append_left hj]
          · rw [List.getElem?_eq_none (by simp; omega), List.getElem?_eq_none (by omega)]
      · have hkey : ((t0 :: t1 :: tl :: (ts ++ [t])).getD (ts.length + 3) nilT) = t := by simp
        rw [hkey] at hx'
        exact .inr (ht x hx')
    refine hdj.upd (s := w.heap.size) (k := 2) (fun i _ x hx' => ?_) (fun i hi => ?_) (fun x hx' => ?_)
    · rcases i with _ | _ | _ | i
      · exact (h.row (i := 0) hx').2
      · exact (h.row (i := 1) hx').2
      · exact (h.row (i := 2) hx').2
      · simp only [List.getD_cons_succ] at hx'
        rcases Nat.lt_or_ge i (ts ++ [t]).length with hj | hj
        · rw [getD_lt _ _ hj] at hx'
          rcases Nat.lt_or_ge i ts.length with hi' | hi'
          · rw [List.getElem_append_left hi'] at hx'
            exact (h.row (i := i + 3) (by simp only [List.getD_cons_succ]; rw [getD_lt _ _ hi']; exact hx')).2
          · rw [List.getElem_append_right hi'] at hx'
            simp only [List.getElem_singleton] at hx'
            exact (hlt x hx').2
        · rw [getD_ge _ _ hj] at hx'
          simp [nilT, blkL, blk] at hx'
    · rcases i with _ | _ | _ | i
      · rfl
      · rfl
      · exact absurd rfl hi
      · rfl
    · rcases ha.fresh x (mem_blkL.1 hx') with q | q
      · exact .inl (mem_blkL.2 q)
      · exact .inr (by omega)
/-- Two rows of it, apart from one another, as what is known ahead. -/
theorem PatO.pick {u0 u1 : Tv} {c0 c1 : List Int} (h : PatO w B t0 t1 tl ts b0 b1 ls) (h0 : Own w B 3 1 u0.ao u0.n u0.c (c0.map iv)) (h1 : Own w B 3 1 u1.ao u1.n u1.c (c1.map iv))
    (i j : Nat) (hij : i ≠ j) (hi : (t0 :: t1 :: tl :: ts).getD i nilT = u0) (hj : (t0 :: t1 :: tl :: ts).getD j nilT = u1) : PatO w B u0 u1 nilT [] c0 c1 [] := by
  have hab : ∀ x, x ∈ blkL u0.ao → x ∈ blkL u1.ao → False := fun x hx hy => hij (h.dj i j x (by rw [hi]; exact hx) (by rw [hj]; exact hy))
  refine ⟨rfl, h0, h1, Own.nil _ _ _ _, fun j t l ht => by simp at ht, fun p q x hp hq => ?_⟩
  rcases p with _ | _ | _ | p <;> rcases q with _ | _ | _ | q <;> first
    | rfl
    | (simp [nilT, blkL, blk] at hp; done)
    | (simp [nilT, blkL, blk] at hq; done)
    | exact (hab x hp hq).elim
    | exact (hab x hq hp).elim
end

/-- What is known ahead when these messages have been put there. -/
def selT : List Ln → List Tv → Tv × Tv → Tv × Tv
  | l :: ls, t :: ts, p => selT ls ts (if l.1 = 0 then (t, p.2) else (p.1, t))
  | _, _, p => p
theorem selT_step : ∀ {ls : List Ln} {ts : List Tv} {k : Nat} {l : Ln} {t : Tv} (p : Tv × Tv), ls[k]? = some l → ts[k]? = some t →
    selT (ls.take (k + 1)) (ts.take (k + 1)) p = if l.1 = 0 then (t, (selT (ls.take k) (ts.take k) p).2) else ((selT (ls.take k) (ts.take k) p).1, t) := by
  intro ls
  induction ls with
  | nil => intro ts k l t p h; simp at h
  | cons a r ih =>
    intro ts k l t p h h2
    cases ts with
    | nil => simp at h2
    | cons b r2 =>
      rcases k with _ | k
      · simp at h h2
        subst h; subst h2
        simp [selT]
      · simp only [List.getElem?_cons_succ] at h h2
        simp only [List.take_succ_cons, selT]
        exact ih _ h h2
theorem selT_all (ls : List Ln) (ts : List Tv) (p : Tv × Tv) (h : ts.length = ls.length) : selT (ls.take ls.length) (ts.take ls.length) p = selT ls ts p := by
  rw [List.take_length, ← h, List.take_length]
/-- The row of three dots, in memory. -/
theorem PatO.moved {w : World} {B : Nat} {t0 t1 tl : Tv} {ts : List Tv} {S : Q.Rd} (h : PatO w B t0 t1 tl ts S.b0 S.b1 S.ls) (hf : ∀ l ∈ S.ls, l.1 = 0 ∨ l.1 = 1) (hr : Q.restOk S = true) :
    PatO w B (selT S.ls ts (t0, t1)).1 (selT S.ls ts (t0, t1)).2 nilT [] (Q.moved S).b0 (Q.moved S).b1 (Q.moved S).ls := by
  obtain ⟨b0, b1, ls, rest⟩ := S
  simp only [Q.restOk, Bool.and_eq_true] at hr
  obtain ⟨_, hr⟩ := hr
  have hlen := h.len
  rcases ls with _ | ⟨a, _ | ⟨b, _ | ⟨c, r⟩⟩⟩
  · simp at hr
  · obtain ⟨t, rfl⟩ : ∃ t, ts = [t] := by
      rcases ts with _ | ⟨t, _ | ⟨u, r⟩⟩ <;> simp at hlen
      exact ⟨t, rfl⟩
    have ho := h.ot 0 t a rfl rfl
    by_cases ha : a.1 = 0
    · simp only [selT, if_pos ha, Q.moved, List.foldl_cons, List.foldl_nil]
      exact h.pick ho h.o1 3 1 (by omega) rfl rfl
    · simp only [selT, if_neg ha, Q.moved, List.foldl_cons, List.foldl_nil]
      exact h.pick h.o0 ho 0 3 (by omega) rfl rfl
  · obtain ⟨t, u, rfl⟩ : ∃ t u, ts = [t, u] := by
      rcases ts with _ | ⟨t, _ | ⟨u, _ | ⟨v, r⟩⟩⟩ <;> simp at hlen
      exact ⟨t, u, rfl⟩
    have ho := h.ot 0 t a rfl rfl
    have hp := h.ot 1 u b rfl rfl
    have hlt : a.1 < b.1 := of_decide_eq_true hr
    have h1 := hf a (by simp)
    have h2 := hf b (by simp)
    have ha : a.1 = 0 := by omega
    have hb : ¬ b.1 = 0 := by omega
    simp only [selT, if_pos ha, if_neg hb, Q.moved, List.foldl_cons, List.foldl_nil]
    exact h.pick ho hp 3 4 (by omega) rfl rfl
  · simp at hr
theorem lineP_from {s : Q.Bt} {l : Ln} (h : Q.lineP s = some l) : l.1 = 0 ∨ l.1 = 1 := by
  unfold Q.lineP at h
  split at h
  · cases hw : Q.wordsT (Lib.split (s.drop 5) Q.comma) with
    | none => rw [hw] at h; simp at h
    | some x => rw [hw] at h; simp only [Option.map_some, Option.some.injEq] at h; exact .inl (by rw [← h])
  · split at h
    · cases hw : Q.wordsT (Lib.split (s.drop 5) Q.comma) with
      | none => rw [hw] at h; simp at h
      | some x => rw [hw] at h; simp only [Option.map_some, Option.some.injEq] at h; exact .inr (by rw [← h])
    · cases h
end Go.Proofs.YtbcjeemjpcidhaaDoor

namespace Go.Proofs.YtbcjeemjpcidhaaDoor
open Go.RowKit

def badC : List PanicEntry := [{ v := .iface 119 (.agg #[]), recovered := false }]
def LineV (w w' : World) (l : Ln) (e : Ending) : Prop := ∃ t : Tv, e = .returned (.agg #[iv l.1, tvv t]) ∧ Own w' w.heap.size 3 1 t.ao t.n t.c (l.2.map iv)
/-- What reading a row of a side leaves. -/
def LinePost (w : World) (s : Q.Bt) (e : Ending) (w' : World) : Prop := Kp w w' ∧ match Q.lineP s with
  | some l => LineV w w' l e
  | none => e = badE
theorem wordsT_take {ws : List Q.Bt} : ∀ {k : Nat} {x : Q.Bt} {ts : List Int} {t : Int}, ws[k]? = some x → Q.wordsT (ws.take k) = some ts → Q.wordT x = some t → Q.wordsT (ws.take (k + 1)) = some (ts ++ [t]) := by
  induction ws with
  | nil => intro k x ts t h; simp at h
  | cons a r ih =>
    intro k x ts t h h1 h2
    rcases k with _ | k
    · simp at h
      subst h
      simp only [List.take_zero, Q.wordsT, Option.some.injEq] at h1
      subst h1
      simp [Q.wordsT, h2]
    · simp only [List.getElem?_cons_succ] at h
      simp only [List.take_succ_cons, Q.wordsT] at h1 ⊢
      cases ha : Q.wordT a with
      | none => rw [ha] at h1; cases h1
      | some u =>
        rw [ha] at h1
        cases hr : Q.wordsT (r.take k) with
        | none => rw [hr] at h1; cases h1
        | some l =>
          rw [hr] at h1
          simp only [Option.some.injEq] at h1
          subst h1
          rw [ih h hr h2]
          rfl
theorem wordsT_bad {ws : List Q.Bt} : ∀ {k : Nat} {x : Q.Bt}, ws[k]? = some x → Q.wordT x = none → Q.wordsT ws = none := by
  induction ws with
  | nil => intro k x h; simp at h
  | cons a r ih =>
    intro k x h h2
    rcases k with _ | k
    · simp at h
      subst h
      simp [Q.wordsT, h2]
    · simp only [List.getElem?_cons_succ] at h
      simp only [Q.wordsT, ih h h2]
      cases Q.wordT a <;> rfl
/-- The pieces of a row. -/
def pcs (s : ByteArray) : List ByteArray := Lib.splitB ⟨#[44, 32]⟩ 0 (Lib.countB s ⟨#[44, 32]⟩) s
theorem pcs_data (s : ByteArray) : (pcs s).map (·.data.toList) = Lib.split s.data.toList Q.comma := by
  unfold pcs
  rw [Lib.splitB_data]
  rfl
theorem pcs_length (s : ByteArray) : (pcs s).length = Lib.countB s ⟨#[44, 32]⟩ + 1 := Lib.splitB_all _ (by decide) 0 _ s rfl
/-- A block's two cells, which may be written. -/
structure Two2 (w : World) (b : Nat) (x y : Value) : Prop where
  c0 : w.cell? ⟨b, 0, none⟩ = some x
  c1 : w.cell? ⟨b, 1, none⟩ = some y
  f0 : w.frozen? ⟨b, 0, none⟩ = false
  f1 : w.frozen? ⟨b, 1, none⟩ = false
theorem Two2.new (w : World) (x y : Value) (t : TypeId) : Two2 (w.alloc (.cells #[x, y] t)) w.heap.size x y := by
  refine ⟨?_, ?_, ?_, ?_⟩
  · rw [World.cell?_alloc_at _ _ _ _ rfl]; rfl
  · rw [World.cell?_alloc_at _ _ _ _ rfl]; rfl
  · exact World.frozen?_alloc_at _ _ _ _ rfl
  · exact World.frozen?_alloc_at _ _ _ _ rfl
theorem Two2.fr {X : List Nat} {w w' : World} {b : Nat} {x y : Value} (h : Two2 w b x y) (k : Fr X w w') (hb : b ∉ X) : Two2 w' b x y := ⟨k.cell h.c0 hb, k.cell h.c1 hb, k.free h.c0 h.f0 hb, k.free h.c1 h.f1 hb⟩
theorem Two2.kp {w w' : World} {b : Nat} {x y : Value} (h : Two2 w b x y) (k : Kp w w') : Two2 w' b x y := h.fr (Fr.of_kp k) (by simp)
theorem Two2.set1 {w : World} {b : Nat} {x y : Value} (h : Two2 w b x y) (z : Value) : Two2 (w.setCell ⟨b, 1, none⟩ z) b x z :=
  ⟨by rw [World.cell?_setCell_other _ _ _ _ (by simp)]; exact h.c0, World.cell?_setCell_same _ _ _ h.c1, by rw [World.frozen?_setCell]; exact h.f0, by rw [World.frozen?_setCell]; exact h.f1⟩
theorem Fr.set2 (w : World) (b : Nat) (x y : Value) : Fr [b] w ((w.setCell ⟨b, 0, none⟩ x).setCell ⟨b, 1, none⟩ y) := (Fr.set w ⟨b, 0, none⟩ x).trans (Fr.set _ ⟨b, 1, none⟩ y)
theorem Two2.set2 {w : World} {b : Nat} {x y : Value} (h : Two2 w b x y) (u v : Value) : ∃ w', w' = (w.setCell ⟨b, 0, none⟩ u).setCell ⟨b, 1, none⟩ v ∧ w'.cell? ⟨b, 0, none⟩ = some u ∧ w'.cell? ⟨b, 1, none⟩ = some v := by
  refine ⟨_, rfl, ?_, ?_⟩
  · rw [World.cell?_setCell_other _ _ _ _ (by simp)]; exact World.cell?_setCell_same _ _ _ h.c0
  · exact World.cell?_setCell_same _ _ _ (by rw [World.cell?_setCell_other _ _ _ _ (by simp)]; exact h.c1)

set_option maxRecDepth 100000 in
set_option maxHeartbeats 8000000 in
theorem line_any (s : ByteArray) (m : Int) (w : World) (hs : s.size < 4294967281) (hm : MaxV w m) : Calls Tryd.prog 68 #[.string s] w (LinePost w s.data.toList) := by
  have HA := Lib.hid (fun w' => Tryd.strings_CutPrefix s ⟨#[32, 32, 45, 62, 32]⟩ w')
  have HB := Lib.hid (fun w' => Tryd.strings_CutPrefix s ⟨#[32, 32, 60, 45, 32]⟩ w')
  have hsl := Lib.size_eq s
  have Hl := Lib.hid (And.intro (show (⟨#[32, 32, 45, 62, 32]⟩ : ByteArray).data.toList = Q.outR from rfl) (show (⟨#[32, 32, 60, 45, 32]⟩ : ByteArray).data.toList = Q.inR from rfl))
  rw [Hl.out.1] at HA
  rw [Hl.out.2] at HB
  clear Hl
  by_cases hA : Lib.hasPrefix s.data.toList Q.outR = true
  · obtain ⟨r, hr, hrl⟩ : ∃ r, Lib.trimPrefix s.data.toList Q.outR = r ∧ r.length ≤ s.size := ⟨_, rfl, by have := Lib.trimPrefix_le s.data.toList Q.outR; omega⟩
    rw [hA, hr] at HA
    have Hr := Lib.hid (show Q.lineP s.data.toList = (Q.wordsT (Lib.split r Q.comma)).map (fun l => (0, l)) by unfold Q.lineP; rw [if_pos hA, ← hr]; unfold Lib.trimPrefix; rw [if_pos hA]; rfl)
    clear hA hr hsl
    change Hid (∀ w', Calls _ _ _ _ (fun e w'' => e = .returned (.tuple #[.string (bs r), .bool true]) ∧ w'' = w')) at HA
    go_enter Tryd.func68, Tryd.ntmps68
    go_wp2_with fail
    (with_reducible refine (HA.out _).mono ?_)
    rintro e w1 ⟨rfl, rfl⟩
    go_upto_region 7 with fail
    obtain ⟨w2, hw2⟩ : ∃ w2, w2 = (w.alloc (.cells #[iv 0, .slice none 0 0] 60)).alloc (.cells #[iv 0, .slice none 0 0] 60) := ⟨_, rfl⟩
    obtain ⟨b3, hb3⟩ : ∃ b3, b3 = w.heap.size + 1 := ⟨_, rfl⟩
    have hk2 : Kp w w2 := by rw [hw2]; exact Kp.trans (Kp.new _ _) (Kp.new _ _)
    have hret : Two2 w2 w.heap.size (iv 0) (.slice none 0 0) := by
      rw [hw2]
      exact (Two2.new w (iv 0) (.slice none 0 0) 60).kp (Kp.new _ _)
    have hout : Two2 w2 b3 (iv 0) (.slice none 0 0) := by
      rw [hw2, hb3]
      have := Two2.new (w.alloc (.cells #[iv 0, .slice none 0 0] 60)) (iv 0) (.slice none 0 0) 60
      rwa [World.size_alloc] at this
    have hs2 : b3 < w2.heap.size := by rw [hw2, hb3]; simp
    rw [← hw2, ← hb3]
    clear hw2
    have hb23 : w.heap.size < b3 := by omega
    obtain ⟨b2, hb2⟩ : ∃ b2, b2 = w.heap.size := ⟨_, rfl⟩
    rw [← hb2] at hret ⊢
    have hb2w : w.heap.size ≤ b2 := by omega
    have hb2w' : b2 < b3 := by omega
    clear hb2 hb3
    have hrs : (bs r).size < 4294967281 := by rw [bs_size]; omega
    have HSp := Lib.hid (Tryd.strings_Split (bs r) ⟨#[44, 32]⟩ m w2 hrs (hk2.maxV hm) (by decide))
    have hpl := pcs_length (bs r)
    have hcl : Lib.countB (bs r) ⟨#[44, 32]⟩ ≤ (bs r).size := Lib.countB_le _ (by decide) _ _ (Nat.le_refl _)
    have Hpd := Lib.hid (pcs_data (bs r))
    rw [← hpl] at HSp
    change Hid (Calls _ _ _ _ (fun e w' => e = .returned (.slice (some ⟨w2.heap.size, 0, none⟩) (pcs (bs r)).length (pcs (bs r)).length) ∧ w' = w2.alloc (.cells ((pcs (bs r)).map Value.string).toArray 9))) at HSp
    have hnl : (pcs (bs r)).length ≤ 4294967281 := by omega
    generalize pcs (bs r) = ps at *
    obtain ⟨n, hn⟩ : ∃ n, n = ps.length := ⟨_, rfl⟩
    rw [← hn] at HSp hnl
    clear hpl hcl hrs
    have hkp := Kp.new w2 (.cells (ps.map Value.string).toArray 9)
    have hps : ∀ j (h : j < ps.length), (w2.alloc (.cells (ps.map Value.string).toArray 9)).cell? ⟨w2.heap.size, j, none⟩ = some (.string ps[j]) := fun j h => by
      rw [World.cell?_alloc_at _ _ _ _ rfl]
      simp [h]
    have hre3 := hret.kp hkp
    have hou3 := hout.kp hkp
    have hk3 := Kp.trans hk2 hkp
    have hs3 : b3 < (w2.alloc (.cells (ps.map Value.string).toArray 9)).heap.size := Nat.lt_of_lt_of_le hs2 hkp.size
    have hbp : w2.heap.size < (w2.alloc (.cells (ps.map Value.string).toArray 9)).heap.size := by simp
    clear hret hout hkp hk2
    go_wp2_with fail
    (with_reducible refine HSp.out.mono ?_)
    rintro e w3 ⟨rfl, hw3⟩
    rw [← hw3] at hps hre3 hou3 hk3 hs3 hbp
    clear hw3
    obtain ⟨bp, hbq⟩ : ∃ bp, bp = w2.heap.size := ⟨_, rfl⟩
    rw [← hbq] at hps hs2 hbp ⊢
    clear hbq
    have Hn := Lib.hid hn
    have Hps := Lib.hid hps
    have Hre := Lib.hid hre3
    have Hk3 := Lib.hid hk3
    clear hn hps hre3 hk3
    go_wp2_with fail
    go_loopw [27] (fun i wr => ∃ (k : Nat) (ts : List Int) (ao : Option Addr) (cap : Nat), k ≤ n ∧ i = .int .i64 (k : Nat) ∧ Fr [b3] w3 wr ∧ Two2 wr b3 (iv 0) (.slice ao k cap) ∧ Own wr w3.heap.size 3 1 ao k cap (ts.map iv) ∧ Q.wordsT ((ps.map (·.data.toList)).take k) = some ts) (fun i _ => n - (intOf i).toNat)
    case atStart => exact ⟨0, [], none, 0, by omega, rfl, Fr.refl _ _, hou3, Own.nil _ _ _ _, rfl⟩
    case round =>
      clear hou3
      obtain ⟨k, ts, ao, cap, hk, rfl, hF, hO, hW, hT⟩ := hrel
      by_cases hlt : k < n
      · have hkp : k < ps.length := by rw [← Hn.out]; exact hlt
        obtain ⟨x, hx⟩ : ∃ x, ps[k]? = some x := ⟨_, List.getElem?_eq_getElem hkp⟩
        have hc : wr.cell? ⟨bp, k, none⟩ = some (.string x) := by
          refine hF.cell ?_ (by simp; omega)
          rw [Hps.out k hkp]
          rw [List.getElem?_eq_getElem hkp] at hx
          rw [Option.some.inj hx]
        have hxd : (ps.map (·.data.toList))[k]? = some x.data.toList := by rw [List.getElem?_map, hx]; rfl
        have Hxd := Lib.hid hxd
        have HT := Lib.hid hT
        clear hxd hT hx
        go_upto_region 10 with fail
        clear hc
        have Hbad := Lib.hid (fun w' (hk' : Kp w w') (hn : Q.lineP s.data.toList = none) => show LinePost w s.data.toList badE w' from ⟨hk', by rw [hn]⟩)
        refine anyP_start (fun w => w.cell? ⟨b3, 1, none⟩ = some (.slice ao k cap)) 7 (fun a => a.defers = []) (fun c w' => c = badC ∧ Kp w w' ∧ Q.lineP s.data.toList = none) (by kernel_rfl) ?hp ?_
        case hp =>
          rintro c a w' hd ⟨rfl, hk', hn'⟩
          exact ⟨hd, Hbad.out _ hk' hn'⟩
        have hI : ∀ ops : Array Oper, Puts ops (fun a => a.defers = []) := fun _ _ o _ a v h => by
          unfold Act.put at h
          cases hd : o.dst <;> rw [hd] at h <;> exact h
        generalize hwq : wr.drew = wd
        have hkd : Kp wr wd := hwq ▸ (⟨rfl, rfl, rfl, Nat.le_refl _, fun _ _ => rfl⟩ : Kp wr wr.drew)
        clear hwq
        have hS := hkd.cell hO.c1
        refine anyP_take (hI _) [0, 2] (by kernel_rfl) hS ?_
        simp only [opsAt, List.getElem?_toArray, List.getElem?_cons_zero, List.getElem?_cons_succ]
        repeat (go_big_quiet_step (fail))
        refine wpQuiet_nil ?_
        refine anyP_load (hI _) 1 32 (.slice ao k cap) rfl rfl (by kernel_rfl) hS (fun w h => exec_load22 h rfl rfl) ?_
        simp only [Act.put, List.setIfInBounds_toArray, List.set_cons_zero, List.set_cons_succ]
        refine anyP_one 3 (by kernel_rfl) ?_
        simp only [opsAt, List.getElem?_toArray, List.getElem?_cons_zero, List.getElem?_cons_succ]
        have hkw : Kp w wr := ((Fr.of_kp Hk3.out).step hF (fun j hj => .inr (by simp at hj; omega))).kp
        have Hkw := Lib.hid (Kp.trans hkw hkd)
        clear hkw
        cases hw : Q.wordT x.data.toList with
        | none =>
          have hTk := token_any x wd
          unfold TokPost at hTk
          rw [hw] at hTk
          have HTk := Lib.hid hTk
          have Hno := Lib.hid (show Q.lineP s.data.toList = none by rw [Hr.out, ← bs_list r, ← Hpd.out, wordsT_bad Hxd.out hw]; rfl)
          clear hTk hw hS
          go_wp2_with fail
          (with_reducible refine HTk.out.mono ?_)
          rintro e w4 ⟨rfl, hk4⟩
          exact ⟨rfl, Kp.trans Hkw.out hk4, Hno.out⟩
        | some t =>
          have hTk := token_any x wd
          unfold TokPost at hTk
          rw [hw] at hTk
          have HTk := Lib.hid hTk
          have Hts := Lib.hid (wordsT_take Hxd.out HT.out hw)
          clear hTk hw
          go_wp2_with fail
          (with_reducible refine HTk.out.mono ?_)
          rintro e w4 ⟨rfl, hk4⟩
          have hS4 := hk4.cell hS
          go_wp2_with fail
          refine ⟨fun _ => hS4, ?_⟩
          refine anyP_one 4 (by kernel_rfl) ?_
          simp only [opsAt, List.getElem?_toArray, List.getElem?_cons_zero, List.getElem?_cons_succ]
          have hkn := Kp.new w4 (.cells #[iv t] 3)
          have hcs : Cs (w4.alloc (.cells #[iv t] 3)) (some ⟨w4.heap.size, 0, none⟩) [iv t] := Cs.new w4 [iv t] 3 (0, 0)
          have hS5 := hkn.cell hS4
          have hk45 : Kp wr (w4.alloc (.cells #[iv t] 3)) := Kp.trans (Kp.trans hkd hk4) hkn
          clear hS hS4
          go_wp2_with fail
          refine ⟨fun _ => hS5, ?_⟩
          generalize w4.alloc (.cells #[iv t] 3) = w5 at *
          obtain ⟨b4, hb4⟩ : ∃ b4, b4 = w4.heap.size := ⟨_, rfl⟩
          rw [← hb4] at hcs ⊢
          clear hb4 hkn
          refine anyP_one 5 (by kernel_rfl) ?_
          simp only [opsAt, List.getElem?_toArray, List.getElem?_cons_zero, List.getElem?_cons_succ]
          have hbs : w3.heap.size ≤ w5.heap.size := Nat.le_trans hF.size hk45.size
          go_wp2_with (at_builtin; go_loud (refine wpList_app rfl (.tmp 32) (.tmp 35) 25 rfl el22 w3.heap.size rfl (hW.keep hk45) rfl [iv t] rfl hcs (by simp [Value.oneCell']) (k + 1) rfl ((ts ++ [t]).map iv) (by simp) (by omega) hbs ?_); intro ao2 cap2 w6 ha)
          have hn3 : b3 ∉ blkL ao := fun h => by have := (hW.lt b3 (mem_blkL.1 h)).1; omega
          have hS6 := ha.fr.cell hS5 hn3
          refine ⟨fun _ => hS6, ?_⟩
          refine anyP_take (hI _) [6] (by kernel_rfl) hS6 ?_
          simp only [opsAt, List.getElem?_toArray, List.getElem?_cons_zero, List.getElem?_cons_succ]
          repeat (go_big_quiet_step (fail))
          refine wpQuiet_nil ?_
          refine anyP_one 7 (by kernel_rfl) ?_
          simp only [opsAt, List.getElem?_toArray, List.getElem?_cons_zero, List.getElem?_cons_succ]
          have hO6 := (hO.kp hk45).fr ha.fr hn3
          have hset := Fr.set w6 ⟨b3, 1, none⟩ (.slice ao2 (k + 1) cap2)
          have hn4 : ∀ j ∈ blkL ao2, j ∉ [b3] := fun j hj hq => by
            simp only [List.mem_singleton] at hq
            subst hq
            rcases ha.fresh _ (mem_blkL.1 hj) with h | h
            · exact hn3 (mem_blkL.2 h)
            · have := hF.size; have := hk45.size; omega
          have hF36 : Fr [b3] w3 w6 := (hF.trans ((Fr.of_kp hk45).mono (by simp))).step ha.fr (fun j hj => .inr (hW.lt j (mem_blkL.1 hj)).1)
          have Hfin := Lib.hid (And.intro (hF36.trans hset) (And.intro (hO6.set1 (.slice ao2 (k + 1) cap2)) (And.intro (hset.own ha.own hn4) Hts.out)))
          have hf6 := hO6.f1
          clear hset hO6 hn4 hO hS5 ha hcs hW hF hn3 hF36
          go_wp2_with fail
          refine ⟨fun h => absurd rfl h, ?_⟩
          refine anyP_end (by kernel_rfl) ?_
          clear hS6 hf6
          go_wp2_with fail
          go_roundw
          case rel => exact ⟨k + 1, ts ++ [t], ao2, cap2, by omega, by go_num, Hfin.out⟩
          case measure => simp [intOf]; omega
      · obtain rfl : k = n := by omega
        have Hyes := Lib.hid (show Q.lineP s.data.toList = some (0, ts) by
          rw [List.take_of_length_le (by rw [List.length_map, ← Hn.out]; exact Nat.le_refl _), Hpd.out, bs_list] at hT
          rw [Hr.out, hT]; rfl)
        have hR := Hre.out.fr hF (by simp; omega)
        have hkw : Kp w wr := ((Fr.of_kp Hk3.out).step hF (fun j hj => .inr (by simp at hj; omega))).kp
        have hset := Fr.set2 wr b2 (iv 0) (.slice ao k cap)
        have hnb : ∀ j ∈ blkL ao, j ∉ [b2] := fun j hj hq => by
          have := (hW.lt j (mem_blkL.1 hj)).1
          simp at hq; omega
        have Hfin := Lib.hid (And.intro ((Fr.of_kp hkw).step hset (fun j hj => .inr (by simp at hj; omega))).kp ((hset.own hW hnb).mono (fun j hj => by have := (hW.lt j hj).1; have := Hk3.out.size; omega) : Own _ w.heap.size 3 1 ao k cap (ts.map iv)))
        obtain ⟨wf, hwf, c0, c1⟩ := hR.set2 (iv 0) (.slice ao k cap)
        rw [← hwf] at Hfin
        have Hwf := Lib.hid hwf
        obtain ⟨x0, x1, x2, x3⟩ := hR
        obtain ⟨y0, y1, _, _⟩ := hO
        clear hset hnb hwf hF hW hT hkw
        go_wp2_with fail
        rw [← Hwf.out]
        show bodyPost Tryd.prog Tryd.f68 (LinePost w s.data.toList) .ret _ _
        refine bodyPost_ret (v := .agg #[iv 0, .slice ao k cap]) (by simp [results, Tryd.results68, go_sem, c0, c1]) rfl ?_
        refine ⟨Hfin.out.1, ?_⟩
        rw [Hyes.out]
        exact ⟨⟨ao, k, cap⟩, rfl, Hfin.out.2⟩
  · by_cases hB : Lib.hasPrefix s.data.toList Q.inR = true
    · obtain ⟨r, hr, hrl⟩ : ∃ r, Lib.trimPrefix s.data.toList Q.inR = r ∧ r.length ≤ s.size := ⟨_, rfl, by have := Lib.trimPrefix_le s.data.toList Q.inR; omega⟩
      have hA' : Lib.hasPrefix s.data.toList Q.outR = false := by simpa using hA
      rw [hA'] at HA
      rw [hB, hr] at HB
      have Hr := Lib.hid (show Q.lineP s.data.toList = (Q.wordsT (Lib.split r Q.comma)).map (fun l => (1, l)) by unfold Q.lineP; rw [if_neg hA, if_pos hB, ← hr]; unfold Lib.trimPrefix; rw [if_pos hB]; rfl)
      clear hA hA' hB hr hsl
      change Hid (∀ w', Calls _ _ _ _ (fun e w'' => e = .returned (.tuple #[.string (bs r), .bool true]) ∧ w'' = w')) at HB
      go_enter Tryd.func68, Tryd.ntmps68
      go_wp2_with fail
      (with_reducible refine (HA.out _).mono ?_)
      rintro e w1 ⟨rfl, rfl⟩
      go_wp2_with fail
      (with_reducible refine (HB.out _).mono ?_)
      rintro e w1 ⟨rfl, rfl⟩
      go_wp2_with fail
      (with_reducible refine (ask_true _).mono ?_)
      rintro e w1 ⟨rfl, rfl⟩
      go_upto_region 7 with fail
      obtain ⟨w2, hw2⟩ : ∃ w2, w2 = (w.alloc (.cells #[iv 0, .slice none 0 0] 60)).alloc (.cells #[iv 1, .slice none 0 0] 60) := ⟨_, rfl⟩
      obtain ⟨b3, hb3⟩ : ∃ b3, b3 = w.heap.size + 1 := ⟨_, rfl⟩
      have hk2 : Kp w w2 := by rw [hw2]; exact Kp.trans (Kp.new _ _) (Kp.new _ _)
      have hret : Two2 w2 w.heap.size (iv 0) (.slice none 0 0) := by
        rw [hw2]
        exact (Two2.new w (iv 0) (.slice none 0 0) 60).kp (Kp.new _ _)
      have hout : Two2 w2 b3 (iv 1) (.slice none 0 0) := by
        rw [hw2, hb3]
        have := Two2.new (w.alloc (.cells #[iv 0, .slice none 0 0] 60)) (iv 1) (.slice none 0 0) 60
        rwa [World.size_alloc] at this
      have hs2 : b3 < w2.heap.size := by rw [hw2, hb3]; simp
      rw [← hw2, ← hb3]
      clear hw2
      have hb23 : w.heap.size < b3 := by omega
      obtain ⟨b2, hb2⟩ : ∃ b2, b2 = w.heap.size := ⟨_, rfl⟩
      rw [← hb2] at hret ⊢
      have hb2w : w.heap.size ≤ b2 := by omega
      have hb2w' : b2 < b3 := by omega
      clear hb2 hb3
      have hrs : (bs r).size < 4294967281 := by rw [bs_size]; omega
      have HSp := Lib.hid (Tryd.strings_Split (bs r) ⟨#[44, 32]⟩ m w2 hrs (hk2.maxV hm) (by decide))
      have hpl := pcs_length (bs r)
      have hcl : Lib.countB (bs r) ⟨#[44, 32]⟩ ≤ (bs r).size := Lib.countB_le _ (by decide) _ _ (Nat.le_refl _)
      have Hpd := Lib.hid (pcs_data (bs r))
      rw [← hpl] at HSp
      change Hid (Calls _ _ _ _ (fun e w' => e = .returned (.slice (some ⟨w2.heap.size, 0, none⟩) (pcs (bs r)).length (pcs (bs r)).length) ∧ w' = w2.alloc (.cells ((pcs (bs r)).map Value.string).toArray 9))) at HSp
      have hnl : (pcs (bs r)).length ≤ 4294967281 := by omega
      generalize pcs (bs r) = ps at *
      obtain ⟨n, hn⟩ : ∃ n, n = ps.length := ⟨_, rfl⟩
      rw [← hn] at HSp hnl
      clear hpl hcl hrs
      have hkp := Kp.new w2 (.cells (ps.map Value.string).toArray 9)
      have hps : ∀ j (h : j < ps.length), (w2.alloc (.cells (ps.map Value.string).toArray 9)).cell? ⟨w2.heap.size, j, none⟩ = some (.string ps[j]) := fun j h => by
        rw [World.cell?_alloc_at _ _ _ _ rfl]
        simp [h]
      have hre3 := hret.kp hkp
      have hou3 := hout.kp hkp
      have hk3 := Kp.trans hk2 hkp
      have hs3 : b3 < (w2.alloc (.cells (ps.map Value.string).toArray 9)).heap.size := Nat.lt_of_lt_of_le hs2 hkp.size
      have hbp : w2.heap.size < (w2.alloc (.cells (ps.map Value.string).toArray 9)).heap.size := by simp
      clear hret hout hkp hk2
      go_wp2_with fail
      (with_reducible refine HSp.out.mono ?_)
      rintro e w3 ⟨rfl, hw3⟩
      rw [← hw3] at hps hre3 hou3 hk3 hs3 hbp
      clear hw3
      obtain ⟨bp, hbq⟩ : ∃ bp, bp = w2.heap.size := ⟨_, rfl⟩
      rw [← hbq] at hps hs2 hbp ⊢
      clear hbq
      have Hn := Lib.hid hn
      have Hps := Lib.hid hps
      have Hre := Lib.hid hre3
      have Hk3 := Lib.hid hk3
      clear hn hps hre3 hk3
      go_wp2_with fail
      go_loopw [27] (fun i wr => ∃ (k : Nat) (ts : List Int) (ao : Option Addr) (cap : Nat), k ≤ n ∧ i = .int .i64 (k : Nat) ∧ Fr [b3] w3 wr ∧ Two2 wr b3 (iv 1) (.slice ao k cap) ∧ Own wr w3.heap.size 3 1 ao k cap (ts.map iv) ∧ Q.wordsT ((ps.map (·.data.toList)).take k) = some ts) (fun i _ => n - (intOf i).toNat)
      case atStart => exact ⟨0, [], none, 0, by omega, rfl, Fr.refl _ _, hou3, Own.nil _ _ _ _, rfl⟩
      case round =>
        clear hou3
        obtain ⟨k, ts, ao, cap, hk, rfl, hF, hO, hW, hT⟩ := hrel
        by_cases hlt : k < n
        · have hkp : k < ps.length := by rw [← Hn.out]; exact hlt
          obtain ⟨x, hx⟩ : ∃ x, ps[k]? = some x := ⟨_, List.getElem?_eq_getElem hkp⟩
          have hc : wr.cell? ⟨bp, k, none⟩ = some (.string x) := by
            refine hF.cell ?_ (by simp; omega)
            rw [Hps.out k hkp]
            rw [List.getElem?_eq_getElem hkp] at hx
            rw [Option.some.inj hx]
          have hxd : (ps.map (·.data.toList))[k]? = some x.data.toList := by rw [List.getElem?_map, hx]; rfl
          have Hxd := Lib.hid hxd
          have HT := Lib.hid hT
          clear hxd hT hx
          go_upto_region 10 with fail
          clear hc
          have Hbad := Lib.hid (fun w' (hk' : Kp w w') (hn : Q.lineP s.data.toList = none) => show LinePost w s.data.toList badE w' from ⟨hk', by rw [hn]⟩)
          refine anyP_start (fun w => w.cell? ⟨b3, 1, none⟩ = some (.slice ao k cap)) 7 (fun a => a.defers = []) (fun c w' => c = badC ∧ Kp w w' ∧ Q.lineP s.data.toList = none) (by kernel_rfl) ?hp ?_
          case hp =>
            rintro c a w' hd ⟨rfl, hk', hn'⟩
            exact ⟨hd, Hbad.out _ hk' hn'⟩
          have hI : ∀ ops : Array Oper, Puts ops (fun a => a.defers = []) := fun _ _ o _ a v h => by
            unfold Act.put at h
            cases hd : o.dst <;> rw [hd] at h <;> exact h
          generalize hwq : wr.drew = wd
          have hkd : Kp wr wd := hwq ▸ (⟨rfl, rfl, rfl, Nat.le_refl _, fun _ _ => rfl⟩ : Kp wr wr.drew)
          clear hwq
          have hS := hkd.cell hO.c1
          refine anyP_take (hI _) [0, 2] (by kernel_rfl) hS ?_
          simp only [opsAt, List.getElem?_toArray, List.getElem?_cons_zero, List.getElem?_cons_succ]
          repeat (go_big_quiet_step (fail))
          refine wpQuiet_nil ?_
          refine anyP_load (hI _) 1 32 (.slice ao k cap) rfl rfl (by kernel_rfl) hS (fun w h => exec_load22 h rfl rfl) ?_
          simp only [Act.put, List.setIfInBounds_toArray, List.set_cons_zero, List.set_cons_succ]
          refine anyP_one 3 (by kernel_rfl) ?_
          simp only [opsAt, List.getElem?_toArray, List.getElem?_cons_zero, List.getElem?_cons_succ]
          have hkw : Kp w wr := ((Fr.of_kp Hk3.out).step hF (fun j hj => .inr (by simp at hj; omega))).kp
          have Hkw := Lib.hid (Kp.trans hkw hkd)
          clear hkw
          cases hw : Q.wordT x.data.toList with
          | none =>
            have hTk := token_any x wd
            unfold TokPost at hTk
            rw [hw] at hTk
            have HTk := Lib.hid hTk
            have Hno := Lib.hid (show Q.lineP s.data.toList = none by rw [Hr.out, ← bs_list r, ← Hpd.out, wordsT_bad Hxd.out hw]; rfl)
            clear hTk hw hS
            go_wp2_with fail
            (with_reducible refine HTk.out.mono ?_)
            rintro e w4 ⟨rfl, hk4⟩
            exact ⟨rfl, Kp.trans Hkw.out hk4, Hno.out⟩
          | some t =>
            have hTk := token_any x wd
            unfold TokPost at hTk
            rw [hw] at hTk
            have HTk := Lib.hid hTk
            have Hts := Lib.hid (wordsT_take Hxd.out HT.out hw)
            clear hTk hw
            go_wp2_with fail
            (with_reducible refine HTk.out.mono ?_)
            rintro e w4 ⟨rfl, hk4⟩
            have hS4 := hk4.cell hS
            go_wp2_with fail
            refine ⟨fun _ => hS4, ?_⟩
            refine anyP_one 4 (by kernel_rfl) ?_
            simp only [opsAt, List.getElem?_toArray, List.getElem?_cons_zero, List.getElem?_cons_succ]
            have hkn := Kp.new w4 (.cells #[iv t] 3)
            have hcs : Cs (w4.alloc (.cells #[iv t] 3)) (some ⟨w4.heap.size, 0, none⟩) [iv t] := Cs.new w4 [iv t] 3 (0, 0)
            have hS5 := hkn.cell hS4
            have hk45 : Kp wr (w4.alloc (.cells #[iv t] 3)) := Kp.trans (Kp.trans hkd hk4) hkn
            clear hS hS4
            go_wp2_with fail
            refine ⟨fun _ => hS5, ?_⟩
            generalize w4.alloc (.cells #[iv t] 3) = w5 at *
            obtain ⟨b4, hb4⟩ : ∃ b4, b4 = w4.heap.size := ⟨_, rfl⟩
            rw [← hb4] at hcs ⊢
            clear hb4 hkn
            refine anyP_one 5 (by kernel_rfl) ?_
            simp only [opsAt, List.getElem?_toArray, List.getElem?_cons_zero, List.getElem?_cons_succ]
            have hbs : w3.heap.size ≤ w5.heap.size := Nat.le_trans hF.size hk45.size
            go_wp2_with (at_builtin; go_loud (refine wpList_app rfl (.tmp 32) (.tmp 35) 25 rfl el22 w3.heap.size rfl (hW.keep hk45) rfl [iv t] rfl hcs (by simp [Value.oneCell']) (k + 1) rfl ((ts ++ [t]).map iv) (by simp) (by omega) hbs ?_); intro ao2 cap2 w6 ha)
            have hn3 : b3 ∉ blkL ao := fun h => by have := (hW.lt b3 (mem_blkL.1 h)).1; omega
            have hS6 := ha.fr.cell hS5 hn3
            refine ⟨fun _ => hS6, ?_⟩
            refine anyP_take (hI _) [6] (by kernel_rfl) hS6 ?_
            simp only [opsAt, List.getElem?_toArray, List.getElem?_cons_zero, List.getElem?_cons_succ]
            repeat (go_big_quiet_step (fail))
            refine wpQuiet_nil ?_
            refine anyP_one 7 (by kernel_rfl) ?_
            simp only [opsAt, List.getElem?_toArray, List.getElem?_cons_zero, List.getElem?_cons_succ]
            have hO6 := (hO.kp hk45).fr ha.fr hn3
            have hset := Fr.set w6 ⟨b3, 1, none⟩ (.slice ao2 (k + 1) cap2)
            have hn4 : ∀ j ∈ blkL ao2, j ∉ [b3] := fun j hj hq => by
              simp only [List.mem_singleton] at hq
              subst hq
              rcases ha.fresh _ (mem_blkL.1 hj) with h | h
              · exact hn3 (mem_blkL.2 h)
              · have := hF.size; have := hk45.size; omega
            have hF36 : Fr [b3] w3 w6 := (hF.trans ((Fr.of_kp hk45).mono (by simp))).step ha.fr (fun j hj => .inr (hW.lt j (mem_blkL.1 hj)).1)
            have Hfin := Lib.hid (And.intro (hF36.trans hset) (And.intro (hO6.set1 (.slice ao2 (k + 1) cap2)) (And.intro (hset.own ha.own hn4) Hts.out)))
            have hf6 := hO6.f1
            clear hset hO6 hn4 hO hS5 ha hcs hW hF hn3 hF36
            go_wp2_with fail
            refine ⟨fun h => absurd rfl h, ?_⟩
            refine anyP_end (by kernel_rfl) ?_
            clear hS6 hf6
            go_wp2_with fail
            go_roundw
            case rel => exact ⟨k + 1, ts ++ [t], ao2, cap2, by omega, by go_num, Hfin.out⟩
            case measure => simp [intOf]; omega
        · obtain rfl : k = n := by omega
          have Hyes := Lib.hid (show Q.lineP s.data.toList = some (1, ts) by
            rw [List.take_of_length_le (by rw [List.length_map, ← Hn.out]; exact Nat.le_refl _), Hpd.out, bs_list] at hT
            rw [Hr.out, hT]; rfl)
          have hR := Hre.out.fr hF (by simp; omega)
          have hkw : Kp w wr := ((Fr.of_kp Hk3.out).step hF (fun j hj => .inr (by simp at hj; omega))).kp
          have hset := Fr.set2 wr b2 (iv 1) (.slice ao k cap)
          have hnb : ∀ j ∈ blkL ao, j ∉ [b2] := fun j hj hq => by
            have := (hW.lt j (mem_blkL.1 hj)).1
            simp at hq; omega
          have Hfin := Lib.hid (And.intro ((Fr.of_kp hkw).step hset (fun j hj => .inr (by simp at hj; omega))).kp ((hset.own hW hnb).mono (fun j hj => by have := (hW.lt j hj).1; have := Hk3.out.size; omega) : Own _ w.heap.size 3 1 ao k cap (ts.map iv)))
          obtain ⟨wf, hwf, c0, c1⟩ := hR.set2 (iv 1) (.slice ao k cap)
          rw [← hwf] at Hfin
          have Hwf := Lib.hid hwf
          obtain ⟨x0, x1, x2, x3⟩ := hR
          obtain ⟨y0, y1, _, _⟩ := hO
          clear hset hnb hwf hF hW hT hkw
          go_wp2_with fail
          rw [← Hwf.out]
          show bodyPost Tryd.prog Tryd.f68 (LinePost w s.data.toList) .ret _ _
          refine bodyPost_ret (v := .agg #[iv 1, .slice ao k cap]) (by simp [results, Tryd.results68, go_sem, c0, c1]) rfl ?_
          refine ⟨Hfin.out.1, ?_⟩
          rw [Hyes.out]
          exact ⟨⟨ao, k, cap⟩, rfl, Hfin.out.2⟩
    · have hA' : Lib.hasPrefix s.data.toList Q.outR = false := by simpa using hA
      have hB' : Lib.hasPrefix s.data.toList Q.inR = false := by simpa using hB
      rw [hA'] at HA
      rw [hB'] at HB
      have Hr := Lib.hid (show Q.lineP s.data.toList = none by unfold Q.lineP; rw [if_neg hA, if_neg hB])
      clear hA hA' hB hB' hsl
      have hk := Kp.trans (Kp.new w (.cells #[iv 0, .slice none 0 0] 60)) (Kp.new (w.alloc (.cells #[iv 0, .slice none 0 0] 60)) (.cells #[iv 1, .slice none 0 0] 60))
      have Hk := Lib.hid hk
      clear hk
      go_enter Tryd.func68, Tryd.ntmps68
      go_wp2_with fail
      (with_reducible refine (HA.out _).mono ?_)
      rintro e w1 ⟨rfl, rfl⟩
      go_wp2_with fail
      (with_reducible refine (HB.out _).mono ?_)
      rintro e w1 ⟨rfl, rfl⟩
      go_wp2_with fail
      (with_reducible refine (ask_false _).mono ?_)
      rintro e w1 ⟨rfl, rfl⟩
      unfold badE
      go_wp2_with fail
      exact ⟨rfl, Hk.out, by rw [Hr.out]; rfl⟩
end Go.Proofs.YtbcjeemjpcidhaaDoor

namespace Go.Proofs.YtbcjeemjpcidhaaDoor
open Go.RowKit

theorem catch_idle (bP bK : Nat) (w : World) : CallsD Tryd.prog 63 #[.pointer (some ⟨bP, 0, none⟩), .pointer (some ⟨bK, 0, none⟩)] .returning w fun e u' w' => e = .returned (.tuple #[]) ∧ u' = .returning ∧ w' = w := by
  refine callsD_of_wpS Tryd.func63 rfl fun c₀ cs hu => ?_
  apply wpS_seq
  apply wpS_region
  simp [wpOpsS, go_sem, recoverD, hu, Tryd.ntmps63, Exit.thenS]
  apply wpS_seq
  apply wpS_region
  simp [wpOpsS, go_sem]
  refine wpS_cond (t := false) (by simp [Act.eval, Array.replicate]) ?_
  simp only [Bool.false_eq_true, if_false]
  refine wpS_of_wp (wp_skip ?_)
  cases c₀
  simp_all [bodyPostS, results, Tryd.results63]

/-- A pattern's four cells, which may be written. -/
structure Four (w : World) (b : Nat) (x y z u : Value) : Prop where
  c0 : w.cell? ⟨b, 0, none⟩ = some x
  c1 : w.cell? ⟨b, 1, none⟩ = some y
  c2 : w.cell? ⟨b, 2, none⟩ = some z
  c3 : w.cell? ⟨b, 3, none⟩ = some u
  f0 : w.frozen? ⟨b, 0, none⟩ = false
  f1 : w.frozen? ⟨b, 1, none⟩ = false
  f2 : w.frozen? ⟨b, 2, none⟩ = false
  f3 : w.frozen? ⟨b, 3, none⟩ = false
theorem Four.new (w : World) (x y z u : Value) (t : TypeId) : Four (w.alloc (.cells #[x, y, z, u] t)) w.heap.size x y z u := by
  refine ⟨?_, ?_, ?_, ?_, ?_, ?_, ?_, ?_⟩
  · rw [World.cell?_alloc_at _ _ _ _ rfl]; rfl
  · rw [World.cell?_alloc_at _ _ _ _ rfl]; rfl
  · rw [World.cell?_alloc_at _ _ _ _ rfl]; rfl
  · rw [World.cell?_alloc_at _ _ _ _ rfl]; rfl
  all_goals exact World.frozen?_alloc_at _ _ _ _ rfl
theorem Four.fr {X : List Nat} {w w' : World} {b : Nat} {x y z u : Value} (h : Four w b x y z u) (k : Fr X w w') (hb : b ∉ X) : Four w' b x y z u :=
  ⟨k.cell h.c0 hb, k.cell h.c1 hb, k.cell h.c2 hb, k.cell h.c3 hb, k.free h.c0 h.f0 hb, k.free h.c1 h.f1 hb, k.free h.c2 h.f2 hb, k.free h.c3 h.f3 hb⟩
theorem Four.kp {w w' : World} {b : Nat} {x y z u : Value} (h : Four w b x y z u) (k : Kp w w') : Four w' b x y z u := h.fr (Fr.of_kp k) (by simp)
/-- One cell, which may be written. -/
structure One1 (w : World) (b : Nat) (x : Value) : Prop where
  c : w.cell? ⟨b, 0, none⟩ = some x
  f : w.frozen? ⟨b, 0, none⟩ = false
theorem One1.new (w : World) (x : Value) (t : TypeId) : One1 (w.alloc (.cells #[x] t)) w.heap.size x := by
  refine ⟨?_, ?_⟩
  · rw [World.cell?_alloc_at _ _ _ _ rfl]; rfl
  · exact World.frozen?_alloc_at _ _ _ _ rfl
theorem One1.fr {X : List Nat} {w w' : World} {b : Nat} {x : Value} (h : One1 w b x) (k : Fr X w w') (hb : b ∉ X) : One1 w' b x := ⟨k.cell h.c hb, k.free h.c h.f hb⟩
theorem One1.kp {w w' : World} {b : Nat} {x : Value} (h : One1 w b x) (k : Kp w w') : One1 w' b x := h.fr (Fr.of_kp k) (by simp)
theorem Four.set {w : World} {b : Nat} {x y z u : Value} (h : Four w b x y z u) (x' y' z' u' : Value) : ∃ w', w' = (((w.setCell ⟨b, 0, none⟩ x').setCell ⟨b, 1, none⟩ y').setCell ⟨b, 2, none⟩ z').setCell ⟨b, 3, none⟩ u' ∧ Fr [b] w w' ∧ Four w' b x' y' z' u' := by
  refine ⟨_, rfl, (((Fr.set w ⟨b, 0, none⟩ x').trans (Fr.set _ ⟨b, 1, none⟩ y')).trans (Fr.set _ ⟨b, 2, none⟩ z')).trans (Fr.set _ ⟨b, 3, none⟩ u'), ⟨?_, ?_, ?_, ?_, ?_, ?_, ?_, ?_⟩⟩
  · rw [World.cell?_setCell_other _ _ _ _ (by simp), World.cell?_setCell_other _ _ _ _ (by simp), World.cell?_setCell_other _ _ _ _ (by simp)]
    exact World.cell?_setCell_same _ _ _ h.c0
  · rw [World.cell?_setCell_other _ _ _ _ (by simp), World.cell?_setCell_other _ _ _ _ (by simp)]
    exact World.cell?_setCell_same _ _ _ (by rw [World.cell?_setCell_other _ _ _ _ (by simp)]; exact h.c1)
  · rw [World.cell?_setCell_other _ _ _ _ (by simp)]
    exact World.cell?_setCell_same _ _ _ (by rw [World.cell?_setCell_other _ _ _ _ (by simp), World.cell?_setCell_other _ _ _ _ (by simp)]; exact h.c2)
  · exact World.cell?_setCell_same _ _ _ (by rw [World.cell?_setCell_other _ _ _ _ (by simp), World.cell?_setCell_other _ _ _ _ (by simp), World.cell?_setCell_other _ _ _ _ (by simp)]; exact h.c3)
  · simp only [World.frozen?_setCell]; exact h.f0
  · simp only [World.frozen?_setCell]; exact h.f1
  · simp only [World.frozen?_setCell]; exact h.f2
  · simp only [World.frozen?_setCell]; exact h.f3
theorem One1.set {w : World} {b : Nat} {x : Value} (h : One1 w b x) (y : Value) : One1 (w.setCell ⟨b, 0, none⟩ y) b y := ⟨World.cell?_setCell_same _ _ _ h.c, by rw [World.frozen?_setCell]; exact h.f⟩
set_option maxRecDepth 100000 in
set_option maxHeartbeats 2000000 in
theorem catch_bad (bP bK : Nat) (hne : bP ≠ bK) (w : World) (x y z u v : Value) (hP : Four w bP x y z u) (hK : One1 w bK v) :
    CallsD Tryd.prog 63 #[.pointer (some ⟨bP, 0, none⟩), .pointer (some ⟨bK, 0, none⟩)] (.panicking badC) w fun e u' w' =>
      e = .returned (.tuple #[]) ∧ u' = .panicking [{ v := .iface 119 (.agg #[]), recovered := true }] ∧ Fr [bP, bK] w w' ∧ Four w' bP (.string ⟨#[]⟩) (.slice none 0 0) (.slice none 0 0) (.slice none 0 0) ∧ One1 w' bK (.bool false) := by
  unfold badC
  refine callsD_of_wpS Tryd.func63 rfl fun c₀ cs hu => ?_
  apply wpS_seq
  apply wpS_region
  simp [wpOpsS, go_sem, recoverD, hu, Tryd.ntmps63, Exit.thenS]
  apply wpS_seq
  apply wpS_region
  simp [wpOpsS, go_sem]
  refine wpS_cond (t := true) (by simp [Act.eval, Array.replicate]) ?_
  simp only [if_true]
  obtain ⟨c0, c1, c2, c3, f0, f1, f2, f3⟩ := hP
  obtain ⟨k0, k1⟩ := hK
  have hk1 := Kp.new w (.cells #[] 119)
  have hP1 := Four.kp ⟨c0, c1, c2, c3, f0, f1, f2, f3⟩ hk1
  have hK1 := One1.kp ⟨k0, k1⟩ hk1
  clear c0 c1 c2 c3 f0 f1 f2 f3 k0 k1
  have hta : ∀ w, (Instr.typeAssert (.iface 119 (.agg #[])) 20 119 true).run Tryd.prog w = .ok (.tuple #[.agg #[], .bool true]) w := fun _ => by kernel_rfl
  refine wpS_of_wp ?_
  show Code.wp Tryd.prog _ _ { tmps := #[.pointer (some ⟨bP, 0, none⟩), .pointer (some ⟨bK, 0, none⟩), .iface 119 (.agg #[]), undef, undef, .iface 119 (.agg #[]), .iface 119 (.agg #[]), .bool true, undef, undef, undef, undef, undef, undef, undef, undef, undef], defers := [] } w
  go_upto_region 5 with fail
  generalize w.alloc (.cells #[] 119) = w1 at *
  obtain ⟨wf, hwf, hF, hP2⟩ := hP1.set (.string ⟨#[]⟩) (.slice none 0 0) (.slice none 0 0) (.slice none 0 0)
  have hK2 := hK1.fr hF (by simpa using fun h => hne h.symm)
  have hset := Fr.set wf ⟨bK, 0, none⟩ (.bool false)
  have hP3 := hP2.fr hset (by simpa using hne)
  have hK3 := hK2.set (.bool false)
  have hFF : Fr [bP, bK] w (wf.setCell ⟨bK, 0, none⟩ (.bool false)) := (((Fr.of_kp hk1).mono (by simp)).trans (hF.mono (by simp))).trans (hset.mono (by simp))
  rw [hwf] at hP3 hK3 hFF
  have Hfin := Lib.hid (And.intro hFF (And.intro hP3 hK3))
  obtain ⟨c0, c1, c2, c3, f0, f1, f2, f3⟩ := hP1
  obtain ⟨k0, k1⟩ := hK1
  clear hF hP2 hK2 hset hP3 hK3 hFF hk1 hwf
  go_wp2_with fail
  simp [bodyPostS, results, Tryd.results63]
  exact Hfin.out
end Go.Proofs.YtbcjeemjpcidhaaDoor

namespace Go.Proofs.YtbcjeemjpcidhaaDoor
open Go.RowKit

/-- A slice value's parts read a list of texts. -/
def Strs (w : World) (ao : Option Addr) (n : Nat) (ss : List ByteArray) : Prop := ss.length = n ∧ n ≤ maxLen ∧ Cs w ao (ss.map .string)
theorem Kp.strs {w w' : World} (h : Kp w w') {ao : Option Addr} {n : Nat} {ss : List ByteArray} (hx : Strs w ao n ss) : Strs w' ao n ss := ⟨hx.1, hx.2.1, h.cs hx.2.2⟩
theorem Strs.at {w : World} {ao : Option Addr} {n : Nat} {ss : List ByteArray} (h : Strs w ao n ss) (k : Nat) (hk : k < n) :
    ∃ b off, ao = some ⟨b, off, none⟩ ∧ ∀ j, (hj : j < n) → w.cell? ⟨b, off + j, none⟩ = some (.string (ss[j]'(by rw [h.1]; exact hj))) := by
  obtain ⟨h1, _, h2⟩ := h
  obtain ⟨b, off, rfl, hc⟩ := h2.at k (by simp; omega)
  exact ⟨b, off, rfl, fun j hj => hc j _ (by simp [show j < ss.length by omega])⟩
/-- What is changed is no older than the start. -/
theorem kp_step' {w0 w w' : World} {X : List Nat} (hk : Kp w0 w) (k : Fr X w w') (h : ∀ j ∈ X, w0.heap.size ≤ j) : Kp w0 w' := ((Fr.of_kp hk).step k (fun j hj => .inr (h j hj))).kp
theorem kp_own {w wr wr1 w2 : World} {B sz : Nat} (h : Kp w wr) (k : Kp wr wr1) {e : TypeId} {ao ao2 : Option Addr} {n cap m N cap2 : Nat} {xs zs : List Value} (hB : w.heap.size ≤ B) (hO : Own wr B e sz ao n cap xs) (a : Appd wr1 w2 B e sz ao cap m N zs ao2 cap2) : Kp w w2 :=
  kp_step' (Kp.trans h k) a.fr (fun j hj => Nat.le_trans hB (hO.lt j (mem_blkL.1 hj)).1)

/-- A pattern that lies there. -/
structure PatI (w : World) (a0 a1 al : Option Addr) (n0 n1 nl : Nat) (b0 b1 : List Int) (ls : List Ln) : Prop where
  i0 : Is w a0 n0 b0
  i1 : Is w a1 n1 b1
  il : Lns w al nl ls
theorem PatI.kp {w w' : World} {a0 a1 al : Option Addr} {n0 n1 nl : Nat} {b0 b1 : List Int} {ls : List Ln} (h : PatI w a0 a1 al n0 n1 nl b0 b1 ls) (k : Kp w w') : PatI w' a0 a1 al n0 n1 nl b0 b1 ls := ⟨k.is h.i0, k.is h.i1, k.lns h.il⟩
theorem PatI.none (w : World) : PatI w none none none 0 0 0 [] [] [] := ⟨Is.zero _ _, Is.zero _ _, ⟨rfl, Nat.zero_le _, fun j hj => absurd hj (by simp)⟩⟩
theorem Kp.frz {w w' : World} (h : Kp w w') {p : Addr} {u : Value} (hc : w.cell? p = some u) {f : Bool} (hf : w.frozen? p = f) : w'.frozen? p = f := (Fr.of_kp h).free hc hf (by simp)
/-- Four cells that may be written. -/
def Free4 (w : World) (b : Nat) : Prop := ∃ x0 x1 x2 x3, (w.cell? ⟨b, 0, none⟩ = some x0 ∧ w.cell? ⟨b, 1, none⟩ = some x1 ∧ w.cell? ⟨b, 2, none⟩ = some x2 ∧ w.cell? ⟨b, 3, none⟩ = some x3) ∧ w.frozen? ⟨b, 0, none⟩ = false ∧ w.frozen? ⟨b, 1, none⟩ = false ∧ w.frozen? ⟨b, 2, none⟩ = false ∧ w.frozen? ⟨b, 3, none⟩ = false
theorem Free4.of (w : World) (x0 x1 x2 x3 : Value) (t : TypeId) : Free4 (w.alloc (.cells #[x0, x1, x2, x3] t)) w.heap.size := by
  refine ⟨x0, x1, x2, x3, ⟨?_, ?_, ?_, ?_⟩, ?_, ?_, ?_, ?_⟩
  · rw [World.cell?_alloc_at _ _ _ _ rfl]; rfl
  · rw [World.cell?_alloc_at _ _ _ _ rfl]; rfl
  · rw [World.cell?_alloc_at _ _ _ _ rfl]; rfl
  · rw [World.cell?_alloc_at _ _ _ _ rfl]; rfl
  · exact World.frozen?_alloc_at _ _ _ _ rfl
  · exact World.frozen?_alloc_at _ _ _ _ rfl
  · exact World.frozen?_alloc_at _ _ _ _ rfl
  · exact World.frozen?_alloc_at _ _ _ _ rfl
theorem Free4.fr {X : List Nat} {w w' : World} {b : Nat} (h : Free4 w b) (k : Fr X w w') (hb : b ∉ X) : Free4 w' b := by
  obtain ⟨x0, x1, x2, x3, ⟨h0, h1, h2, h3⟩, f0, f1, f2, f3⟩ := h
  exact ⟨x0, x1, x2, x3, ⟨k.cell h0 hb, k.cell h1 hb, k.cell h2 hb, k.cell h3 hb⟩, k.free h0 f0 hb, k.free h1 f1 hb, k.free h2 f2 hb, k.free h3 f3 hb⟩
end Go.Proofs.YtbcjeemjpcidhaaDoor
