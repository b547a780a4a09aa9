/- Parts of the walks and plain laws, merged: Check, Maps, BkMap, Jumps, Open, Law, Code, Laid, OpenM, RefShaped, Run. Each theorem bears its own conditions; no other. -/
import Derived.Test.YtpemfmjplejdiaaDoorShaped
import Derived.MapKept
import Derived.Maps.Own
import Derived.ScopeJumps
import Derived.WalkMore
import Derived.Maps.RangeWalk
import Derived.Deep.SlicePairs
import Derived.OpenShut
import Derived.Test.YtpemfmjplejdiaaDoorCards
import Derived.Test.YtpemfmjplejdiaaDoorTie
import Derived.ProofKit
import Derived.Deep.DeepHandedRow
import Derived.Stop.LaidErr
import Derived.Lay
import Derived.Stop.LaidTwo
import Derived.LaidEqlPtr
namespace Go.Proofs.YtpemfmjplejdiaaDoor
open Go.RowKit

def S0 : Nat → Bool := fun _ => false
def begunL (b0 b1 : List Int) : Nat → Bool := b1.foldl (fun S t => upd S (3 + t).toNat true) (b0.foldl (fun S t => upd S t.toNat true) S0)
def runToks (S : Nat → Bool) (f : Int) : List Int → Nat × (Nat → Bool)
  | [] => (0, S)
  | t :: r => if offL S f t r.isEmpty = 0 then runToks (tookL S f t) f r else (offL S f t r.isEmpty, S)
def runLs (S : Nat → Bool) : List Ln → Nat × (Nat → Bool)
  | [] => (0, S)
  | l :: r => if (runToks S l.1 l.2).1 = 0 then runLs (runToks S l.1 l.2).2 r else runToks S l.1 l.2
def oneWay (ls : List Ln) : Bool := ls.length == 1 && (ls[0]?).map (·.1) == some 0
def endL (S : Nat → Bool) (ls : List Ln) : Nat := if !safeL S 0 || (!oneWay ls && !safeL S 1) then 12 else 0
/-- The number of the error; 0: none. -/
def checkL (b0 b1 : List Int) (ls : List Ln) : Nat :=
  if shapedL b0 b1 ls then (if (runLs (begunL b0 b1) ls).1 = 0 then endL (runLs (begunL b0 b1) ls).2 ls else (runLs (begunL b0 b1) ls).1) else 9

theorem okB_mem {l : List Int} (h : okB l = true) : ∀ j (hj : j < l.length), l[j] = 1 ∨ l[j] = 2 := by
  match l, h with
  | [], _ => intro j hj; simp at hj
  | [x], h => intro j hj; obtain rfl : j = 0 := by simpa using hj
              simpa [okB] using h
  | [x, y], h =>
    intro j hj
    simp only [okB, Bool.and_eq_true, beq_iff_eq] at h
    obtain ⟨rfl, rfl⟩ := h
    rcases (show j = 0 ∨ j = 1 by simp at hj; omega) with rfl | rfl
    · left; rfl
    · right; rfl
  | _ :: _ :: _ :: _, h => simp [okB] at h

theorem linesOk_mem {ls : List Ln} : ∀ {prev : Option Int} {n : Nat}, linesOk prev n ls = true → ∀ j (h : j < ls.length), (ls[j].1 = 0 ∨ ls[j].1 = 1) ∧ 0 < ls[j].2.length ∧ ∀ i (hi : i < ls[j].2.length), 1 ≤ ls[j].2[i] ∧ ls[j].2[i] ≤ 7 := by
  induction ls with
  | nil => intro _ _ _ j h; simp at h
  | cons l r ih =>
    intro prev n hl j h
    simp only [linesOk, Bool.and_eq_true] at hl
    obtain ⟨⟨⟨h1, h2⟩, h3⟩, h4⟩ := hl
    rcases j with _ | j
    · simp only [headOk, Bool.and_eq_true, Bool.or_eq_true, beq_iff_eq, bne_iff_ne] at h1
      refine ⟨h1.1.1, by have := h1.2; simp only [List.getElem_cons_zero]; omega, fun i hi => ?_⟩
      have := List.all_eq_true.1 h2 _ (List.getElem_mem hi)
      simpa using this
    · exact ih h4 j (by simpa using h)
theorem shapedL_mem {b0 b1 : List Int} {ls : List Ln} (h : shapedL b0 b1 ls = true) : okB b0 = true ∧ okB b1 = true ∧ 0 < ls.length ∧ ∀ j (h : j < ls.length), (ls[j].1 = 0 ∨ ls[j].1 = 1) ∧ 0 < ls[j].2.length ∧ ∀ i (hi : i < ls[j].2.length), 1 ≤ ls[j].2[i] ∧ ls[j].2[i] ≤ 7 := by
  simp only [shapedL, Bool.and_eq_true, bne_iff_ne] at h
  exact ⟨h.1.1.1, h.1.1.2, by omega, linesOk_mem h.2⟩

def foldSet (S : Nat → Bool) (d : Int) (l : List Int) : Nat → Bool := l.foldl (fun S t => upd S (d + t).toNat true) S
theorem foldSet_succ (S : Nat → Bool) (d : Int) (l : List Int) (k : Nat) (h : k < l.length) : foldSet S d (l.take (k + 1)) = upd (foldSet S d (l.take k)) (d + l[k]).toNat true := by
  unfold foldSet
  rw [take_step l k h, List.foldl_append]; rfl
theorem begunL_eq (b0 b1 : List Int) : begunL b0 b1 = foldSet (foldSet S0 0 b0) 3 b1 := by
  unfold begunL foldSet
  simp only [Int.zero_add]
theorem runToks_at (S : Nat → Bool) (f : Int) (ts : List Int) (j : Nat) (h : j < ts.length) : runToks S f (ts.drop j) = if offL S f ts[j] (j + 1 == ts.length) = 0 then runToks (tookL S f ts[j]) f (ts.drop (j + 1)) else (offL S f ts[j] (j + 1 == ts.length), S) := by
  rw [drop_cons ts j h, runToks]
  have : (ts.drop (j + 1)).isEmpty = (j + 1 == ts.length) := by
    rw [Bool.eq_iff_iff]; simp; omega
  rw [this]
theorem runLs_at (S : Nat → Bool) (ls : List Ln) (k : Nat) (h : k < ls.length) : runLs S (ls.drop k) = if (runToks S ls[k].1 ls[k].2).1 = 0 then runLs (runToks S ls[k].1 ls[k].2).2 (ls.drop (k + 1)) else runToks S ls[k].1 ls[k].2 := by
  rw [drop_cons ls k h, runLs]

theorem kp_step2 {w0 w w' : World} {b : Nat} (hk : Kp w0 w) (k : Fr [b] w w') (h : w0.heap.size < b) : Kp w0 w' := ((Fr.of_kp hk).step k (fun j hj => .inr (by simp only [List.mem_singleton] at hj; omega))).kp
theorem newWalk (w : World) : WalkAt (w.alloc (.cells #[.bool false, .bool false, .bool false, .bool false, .bool false, .bool false, .bool false, .bool false, .bool false, .bool false, .bool false, .bool false, .bool false, .bool false] 77)) w.heap.size S0 := fun j hj => by
  constructor
  · rw [World.cell?_alloc_at _ _ _ _ rfl]
    rcases (show j = 0 ∨ j = 1 ∨ j = 2 ∨ j = 3 ∨ j = 4 ∨ j = 5 ∨ j = 6 ∨ j = 7 ∨ j = 8 ∨ j = 9 ∨ j = 10 ∨ j = 11 ∨ j = 12 ∨ j = 13 by omega) with rfl | rfl | rfl | rfl | rfl | rfl | rfl | rfl | rfl | rfl | rfl | rfl | rfl | rfl <;> rfl
  · exact World.frozen?_alloc_at _ _ _ _ rfl

set_option maxRecDepth 100000 in
set_option maxHeartbeats 4000000 in
theorem check_any (w : World) (E : Nat → Addr) (hE : Errs w E) (nm : ByteArray) (a0 a1 al : Option Addr) (n0 c0 n1 c1 nl cl : Nat) (b0 b1 : List Int) (ls : List Ln) (h0 : Is w a0 n0 b0) (h1 : Is w a1 n1 b1) (hl : Lns w al nl ls) :
    Calls Tryd.prog 21 #[.agg #[.string nm, .slice a0 n0 c0, .slice a1 n1 c1, .slice al nl cl]] w fun e w' => e = .returned (errV E (checkL b0 b1 ls)) ∧ Kp w w' := by
  have hnl := hl.2.1
  have Hll := Lib.hid hl.1
  have hnew : ∀ j v, [Value.string nm, .slice a0 n0 c0, .slice a1 n1 c1, .slice al nl cl][j]? = some v → (w.alloc (.cells #[.string nm, .slice a0 n0 c0, .slice a1 n1 c1, .slice al nl cl] 26)).cell? ⟨w.heap.size, j, none⟩ = some v := by
    intro j v hv
    rw [World.cell?_alloc_at _ _ _ _ rfl]
    simpa using hv
  have Hnew := Lib.hid hnew; clear hnew
  have i0 : ∀ w, (Instr.index 23 (.agg #[.slice a0 n0 c0, .slice a1 n1 c1]) (.int .i64 0)).run Tryd.prog w = .ok (.slice a0 n0 c0) w := fun _ => by kernel_rfl
  have i1 : ∀ w, (Instr.index 23 (.agg #[.slice a0 n0 c0, .slice a1 n1 c1]) (.int .i64 1)).run Tryd.prog w = .ok (.slice a1 n1 c1) w := fun _ => by kernel_rfl
  go_enter Tryd.func21, Tryd.ntmps21
  go_wp2_with fail
  (with_reducible refine (shaped_any _ nm a0 a1 al n0 c0 n1 c1 nl cl b0 b1 ls (Kp.is (Kp.new _ _) h0) (Kp.is (Kp.new _ _) h1) (Kp.lns (Kp.new _ _) hl)).mono ?_)
  rintro e w1 ⟨rfl, hk1⟩
  have hkw := Kp.trans (Kp.new _ _) hk1
  have hE1 := Kp.errs hkw hE
  cases hs : shapedL b0 b1 ls with
  | false =>
    have HF := Lib.hid (show checkL b0 b1 ls = 9 by unfold checkL; rw [hs]; rfl)
    have e9 := hE1.1
    clear hs
    go_wp2_with fail
    go_ret
    exact ⟨by rw [HF.out]; rfl, hkw⟩
  | true =>
    obtain ⟨hb0, hb1, hl0, hmem⟩ := shapedL_mem hs
    have HF := Lib.hid (show checkL b0 b1 ls = if (runLs (begunL b0 b1) ls).1 = 0 then endL (runLs (begunL b0 b1) ls).2 ls else (runLs (begunL b0 b1) ls).1 by unfold checkL; rw [hs]; rfl)
    have y1 := fun o => Kp.cell (Kp.new w1 o) (Kp.cell hk1 (Hnew.out 1 _ rfl))
    have y2 := fun o => Kp.cell (Kp.new w1 o) (Kp.cell hk1 (Hnew.out 2 _ rfl))
    have y3 := fun o => Kp.cell (Kp.new w1 o) (Kp.cell hk1 (Hnew.out 3 _ rfl))
    have Hb0 := Lib.hid (okB_mem hb0)
    have Hb1 := Lib.hid (okB_mem hb1)
    have Hmem := Lib.hid hmem
    clear hs hb0 hb1 hmem
    go_wp2_with fail
    have hW := newWalk w1
    have hlt1 : w.heap.size < w1.heap.size := by have := hk1.size; simp at this; omega
    have hkb := Kp.trans hkw (Kp.new w1 (.cells #[.bool false, .bool false, .bool false, .bool false, .bool false, .bool false, .bool false, .bool false, .bool false, .bool false, .bool false, .bool false, .bool false, .bool false] 77))
    have y1 := y1 (.cells #[.bool false, .bool false, .bool false, .bool false, .bool false, .bool false, .bool false, .bool false, .bool false, .bool false, .bool false, .bool false, .bool false, .bool false] 77)
    have y2 := y2 (.cells #[.bool false, .bool false, .bool false, .bool false, .bool false, .bool false, .bool false, .bool false, .bool false, .bool false, .bool false, .bool false, .bool false, .bool false] 77)
    have y3 := y3 (.cells #[.bool false, .bool false, .bool false, .bool false, .bool false, .bool false, .bool false, .bool false, .bool false, .bool false, .bool false, .bool false, .bool false, .bool false] 77)
    obtain ⟨bw, hbw⟩ : ∃ x, x = w1.heap.size := ⟨_, rfl⟩
    rw [← hbw] at hW hlt1 ⊢
    clear hbw
    generalize w1.alloc (.cells #[.bool false, .bool false, .bool false, .bool false, .bool false, .bool false, .bool false, .bool false, .bool false, .bool false, .bool false, .bool false, .bool false, .bool false] 77) = wb at *
    have hfar : ∀ w', Fr [bw] wb w' → Kp w w' := fun w' h => kp_step2 hkb h hlt1
    have Hfar := Lib.hid hfar; clear hfar
    go_loopw [22] (fun i wr => ∃ k : Nat, k ≤ 2 ∧ i = .int .i64 k ∧ Fr [bw] wb wr ∧ WalkAt wr bw (if k = 0 then S0 else if k = 1 then foldSet S0 0 b0 else foldSet (foldSet S0 0 b0) 3 b1)) (fun i _ => 2 - (intOf i).toNat)
    case atStart => exact ⟨0, by omega, rfl, Fr.refl _ _, hW⟩
    case round =>
      clear hW
      obtain ⟨k, hk, rfl, hF, hW⟩ := hrel
      rcases (show k = 0 ∨ k = 1 ∨ k = 2 by omega) with rfl | rfl | rfl
      · rw [if_pos rfl] at hW
        have hI := Kp.is (Hfar.out _ hF) h0
        have hlen : b0.length = n0 := h0.1
        have hnn : n0 ≤ 9223372036854775807 := h0.2.1
        have Hlen := Lib.hid hlen; clear hlen
        have hW0 : WalkAt wr bw (foldSet S0 0 (b0.take 0)) := hW
        clear hW
        go_wp2_with fail
        obtain ⟨wo, rfl⟩ : ∃ wo : World, wo = wr := ⟨_, rfl⟩
        go_loopw [28] (fun i wr => ∃ j : Nat, j ≤ n0 ∧ i = .int .i64 j ∧ Fr [bw] wb wr ∧ WalkAt wr bw (foldSet S0 0 (b0.take j))) (fun i _ => n0 - (intOf i).toNat)
        case atStart => exact ⟨0, by omega, rfl, hF, hW0⟩
        case round =>
          clear hW0 hF hI
          obtain ⟨j, hj, rfl, hF, hW⟩ := hrel
          have hI := Kp.is (Hfar.out _ hF) h0
          by_cases hjn : j < n0
          · obtain ⟨tb, toff, rfl, _, hcc⟩ := hI.at j hjn
            have hck := hcc j hjn
            have hjl : j < b0.length := by rw [Hlen.out]; exact hjn
            have hsucc := foldSet_succ S0 0 b0 j hjl
            have hval := Hb0.out j hjl
            clear hcc
            generalize b0[j]'hjl = t at hck hsucc hval
            have Hsucc := Lib.hid hsucc; clear hsucc
            rcases hval with rfl | rfl
            · have c := (hW 1 (by omega)).1
              have z := (hW 1 (by omega)).2
              have hW2 := hW.set 1 (by omega)
              have hF2 := hF.trans (Fr.set wr ⟨bw, 1, none⟩ (.bool true))
              go_wp2_with fail
              go_roundw
              case rel => exact ⟨j + 1, by omega, by go_num, hF2, by rw [Hsucc.out]; exact hW2⟩
              case measure => simp [intOf]; omega
            · have c := (hW 2 (by omega)).1
              have z := (hW 2 (by omega)).2
              have hW2 := hW.set 2 (by omega)
              have hF2 := hF.trans (Fr.set wr ⟨bw, 2, none⟩ (.bool true))
              go_wp2_with fail
              go_roundw
              case rel => exact ⟨j + 1, by omega, by go_num, hF2, by rw [Hsucc.out]; exact hW2⟩
              case measure => simp [intOf]; omega
          · obtain rfl : n0 = j := by omega
            rw [List.take_of_length_le (by rw [Hlen.out]; exact Nat.le_refl _)] at hW
            go_wp2_with fail
            go_roundw
            case rel => exact ⟨1, by omega, rfl, hF, hW⟩
            case measure => simp [intOf]
      · rw [if_neg (by decide), if_pos rfl] at hW
        have hI := Kp.is (Hfar.out _ hF) h1
        have hlen : b1.length = n1 := h1.1
        have hnn : n1 ≤ 9223372036854775807 := h1.2.1
        have Hlen := Lib.hid hlen; clear hlen
        have hW0 : WalkAt wr bw (foldSet (foldSet S0 0 b0) 3 (b1.take 0)) := hW
        clear hW
        go_wp2_with fail
        obtain ⟨wo, rfl⟩ : ∃ wo : World, wo = wr := ⟨_, rfl⟩
        go_loopw [28] (fun i wr => ∃ j : Nat, j ≤ n1 ∧ i = .int .i64 j ∧ Fr [bw] wb wr ∧ WalkAt wr bw (foldSet (foldSet S0 0 b0) 3 (b1.take j))) (fun i _ => n1 - (intOf i).toNat)
        case atStart => exact ⟨0, by omega, rfl, hF, hW0⟩
        case round =>
          clear hW0 hF hI
          obtain ⟨j, hj, rfl, hF, hW⟩ := hrel
          have hI := Kp.is (Hfar.out _ hF) h1
          by_cases hjn : j < n1
          · obtain ⟨tb, toff, rfl, _, hcc⟩ := hI.at j hjn
            have hck := hcc j hjn
            have hjl : j < b1.length := by rw [Hlen.out]; exact hjn
            have hsucc := foldSet_succ (foldSet S0 0 b0) 3 b1 j hjl
            have hval := Hb1.out j hjl
            clear hcc
            generalize b1[j]'hjl = t at hck hsucc hval
            have Hsucc := Lib.hid hsucc; clear hsucc
            rcases hval with rfl | rfl
            · have c := (hW 4 (by omega)).1
              have z := (hW 4 (by omega)).2
              have hW2 := hW.set 4 (by omega)
              have hF2 := hF.trans (Fr.set wr ⟨bw, 4, none⟩ (.bool true))
              go_wp2_with fail
              go_roundw
              case rel => exact ⟨j + 1, by omega, by go_num, hF2, by rw [Hsucc.out]; exact hW2⟩
              case measure => simp [intOf]; omega
            · have c := (hW 5 (by omega)).1
              have z := (hW 5 (by omega)).2
              have hW2 := hW.set 5 (by omega)
              have hF2 := hF.trans (Fr.set wr ⟨bw, 5, none⟩ (.bool true))
              go_wp2_with fail
              go_roundw
              case rel => exact ⟨j + 1, by omega, by go_num, hF2, by rw [Hsucc.out]; exact hW2⟩
              case measure => simp [intOf]; omega
          · obtain rfl : n1 = j := by omega
            rw [List.take_of_length_le (by rw [Hlen.out]; exact Nat.le_refl _)] at hW
            go_wp2_with fail
            go_roundw
            case rel => exact ⟨2, by omega, rfl, hF, hW⟩
            case measure => simp [intOf]
      · rw [if_neg (by decide), if_neg (by decide)] at hW
        rw [← begunL_eq] at hW
        rw [show ((2 : Nat) : Int) = 2 from rfl]
        obtain ⟨wo, rfl⟩ : ∃ wo : World, wo = wr := ⟨_, rfl⟩
        have y3o := hF.cell y3 (by simp; omega)
        go_wp2_with fail
        go_loopw [44] (fun i wr => ∃ (k : Nat) (S : Nat → Bool), k ≤ nl ∧ i = .int .i64 k ∧ Fr [bw] wb wr ∧ WalkAt wr bw S ∧ runLs (begunL b0 b1) ls = runLs S (ls.drop k)) (fun i _ => nl - (intOf i).toNat)
        case atStart => exact ⟨0, begunL b0 b1, by omega, rfl, hF, hW, rfl⟩
        case round =>
          clear hW hF y3o
          obtain ⟨k, S, hk, rfl, hF, hW, hrun⟩ := hrel
          have Hrun := Lib.hid hrun; clear hrun
          by_cases hlt : k < nl
          · have hkl : k < ls.length := by rw [Hll.out]; exact hlt
            have hkr := Hfar.out _ hF
            obtain ⟨b, off, tp, tn, tc, rfl, hc1, hc2, hI, htn⟩ := hl.2.2 k hkl
            have hc1 := Kp.cell hkr hc1
            have hc2 := Kp.cell hkr hc2
            obtain ⟨hfm, htpos, htm⟩ := Hmem.out k hkl
            have hat := runLs_at S ls k hkl
            obtain ⟨f, ts, hft⟩ : ∃ f ts, ls[k] = (f, ts) := ⟨_, _, rfl⟩
            rw [hft] at hc1 hI hat hfm htpos htm
            have hI : Is w tp tn ts := hI
            have hc1 : wr.cell? ⟨b, off + k * 2, none⟩ = some (iv f) := hc1
            have hfm : f = 0 ∨ f = 1 := hfm
            have Htm := Lib.hid htm; clear htm
            have htl : ts.length = tn := hI.1
            have Htl := Lib.hid htl; clear htl
            have htpos : 0 < tn := by rw [← Htl.out]; exact htpos
            have Hat := Lib.hid hat; clear hat hft
            have HI := Lib.hid hI; clear hI
            have hWq := fun o => Kp.walk (Kp.new wr o) hW
            have HWq := Lib.hid hWq; clear hWq
            have hlt2 : bw < wr.heap.size := World.block_lt_of_cell? wr _ (hW 0 (by omega)).1
            go_wp2_with fail
            have hkn := Kp.new wr (.cells #[iv f, .slice tp tn tc] 53)
            have hd0 : (wr.alloc (.cells #[iv f, .slice tp tn tc] 53)).cell? ⟨wr.heap.size, 0, none⟩ = some (iv f) := by rw [World.cell?_alloc_at _ _ _ _ rfl]; rfl
            have hd1 : (wr.alloc (.cells #[iv f, .slice tp tn tc] 53)).cell? ⟨wr.heap.size, 1, none⟩ = some (.slice tp tn tc) := by rw [World.cell?_alloc_at _ _ _ _ rfl]; rfl
            have hWq := HWq.out (.cells #[iv f, .slice tp tn tc] 53)
            have hFq := hF.trans ((Fr.of_kp hkn).mono (Y := [bw]) (by simp))
            obtain ⟨bn, hbn⟩ : ∃ x, x = wr.heap.size := ⟨_, rfl⟩
            rw [← hbn] at hd0 hd1 hlt2 ⊢
            clear hbn HWq
            generalize wr.alloc (.cells #[iv f, .slice tp tn tc] 53) = wq at *
            go_loopw [51] (fun i wv => ∃ (j : Nat) (S' : Nat → Bool), j ≤ tn ∧ i = .int .i64 j ∧ Fr [bw] wq wv ∧ WalkAt wv bw S' ∧ runToks S f ts = runToks S' f (ts.drop j)) (fun i _ => tn - (intOf i).toNat)
            case atStart => exact ⟨0, S, by omega, rfl, Fr.refl _ _, hWq, rfl⟩
            case round =>
              clear hWq
              obtain ⟨j, S', hj, rfl, hF', hW', hrt⟩ := hrel
              have Hrt := Lib.hid hrt; clear hrt
              have hFa := hFq.trans hF'
              have hka := Hfar.out _ hFa
              by_cases hjt : j < tn
              · have hjl : j < ts.length := by rw [Htl.out]; exact hjt
                have hE2 := Kp.errs hka hE
                have hd0 := hF'.cell hd0 (by simp; omega)
                have hd1 := hF'.cell hd1 (by simp; omega)
                obtain ⟨tb, toff, rfl, _, hcc⟩ := (Kp.is hka HI.out).at j hjt
                have hck := hcc j hjt
                have hat2 := runToks_at S' f ts j hjl
                obtain ⟨ht1, ht7⟩ := Htm.out j hjl
                obtain ⟨L, hL⟩ : ∃ L, L = (j + 1 == ts.length) := ⟨_, rfl⟩
                rw [← hL] at hat2
                have hb : ((j : Int) == (tn : Int) - 1) = L := by
                  rw [hL, Htl.out, Bool.eq_iff_iff]; simp; omega
                clear hcc hL
                generalize ts[j]'hjl = t at hck hat2 ht1 ht7
                have Hat2 := Lib.hid hat2; clear hat2
                go_wp2_with fail
                (with_reducible refine (takes_any _ E hE2 bw S' hW' f t hfm ht1 ht7 L).mono ?_)
                rintro e w5 ⟨rfl, hF5, hW5⟩
                by_cases hc : offL S' f t L = 0
                · have hW6 := hW5 hc
                  have hrt2 : runToks S f ts = runToks (tookL S' f t) f (ts.drop (j + 1)) := by rw [Hrt.out, Hat2.out, if_pos hc]
                  rw [show errV E (offL S' f t L) = .nilIface by rw [hc]; rfl]
                  have Hrt2 := Lib.hid hrt2
                  clear hW5 hrt2 hc
                  go_wp2_with fail
                  go_roundw
                  case rel => exact ⟨j + 1, tookL S' f t, by omega, by go_num, hF'.trans hF5, hW6, Hrt2.out⟩
                  case measure => simp [intOf]; omega
                · have hk5 := Hfar.out _ (hFa.trans hF5)
                  have HF2 := Lib.hid (show checkL b0 b1 ls = offL S' f t L by
                    have h2 : runToks S f ts = (offL S' f t L, S') := by rw [Hrt.out, Hat2.out, if_neg hc]
                    have h3 : runLs (begunL b0 b1) ls = (offL S' f t L, S') := by rw [Hrun.out, Hat.out, h2]; exact if_neg hc
                    rw [HF.out, h3]; exact if_neg hc)
                  rw [show errV E (offL S' f t L) = .iface 107 (.pointer (some (E (offL S' f t L)))) from if_neg hc]
                  have Hc := Lib.hid hc
                  clear hW5 hc
                  go_wp2_with fail
                  go_ret
                  exact ⟨by rw [HF2.out]; unfold errV; rw [if_neg Hc.out]; rfl, hk5⟩
              · obtain rfl : j = tn := by omega
                have hrt2 : runLs (begunL b0 b1) ls = runLs S' (ls.drop (k + 1)) := by
                  have h2 : runToks S f ts = (0, S') := by rw [Hrt.out, List.drop_of_length_le (by rw [Htl.out]; exact Nat.le_refl _)]; rfl
                  rw [Hrun.out, Hat.out, h2]; rfl
                have Hrt2 := Lib.hid hrt2; clear hrt2
                go_wp2_with fail
                go_roundw
                case rel => exact ⟨k + 1, S', by omega, by go_num, hFa, hW', Hrt2.out⟩
                case measure => simp [intOf]; omega
          · obtain rfl : k = ls.length := by rw [Hll.out]; omega
            obtain rfl : nl = ls.length := Hll.out.symm
            have hkr := Hfar.out _ hF
            have y3 := hF.cell y3 (by simp; omega)
            have HF2 := Lib.hid (show checkL b0 b1 ls = endL S ls by
              have h3 : runLs (begunL b0 b1) ls = (0, S) := by rw [Hrun.out, List.drop_of_length_le (Nat.le_refl _)]; rfl
              rw [HF.out, h3]; rfl)
            have hE2 := Kp.errs hkr hE
            obtain ⟨b, off, tp, tn, tc, rfl, hc1, hc2, hI, htn⟩ := hl.2.2 0 hl0
            have hc1 := Kp.cell hkr hc1
            rw [Nat.zero_mul, Nat.add_zero] at hc1
            have hone : oneWay ls = (ls.length == 1 && ls[0].1 == 0) := by
              unfold oneWay
              rw [List.getElem?_eq_getElem hl0]; rfl
            generalize ls[0].1 = g at hc1 hone
            have Hone := Lib.hid hone; clear hone
            clear hI htn hc2
            go_upto_region 24 with fail
            go_cut [13] (fun v wc => v = .bool (oneWay ls) ∧ wr = wc)
            case first =>
              by_cases hl1 : ls.length = 1
              · have hb : ((ls.length : Int) == 1) = true := by simp; omega
                have HO := Lib.hid (show oneWay ls = (g == 0) by rw [Hone.out, hl1]; rfl)
                clear hl1
                go_wp2_with fail
                go_meet
                case rel => exact ⟨by rw [HO.out], rfl⟩
              · have hb : ((ls.length : Int) == 1) = false := by simp; omega
                have HO := Lib.hid (show oneWay ls = false by rw [Hone.out, beq_false_of_ne hl1]; rfl)
                clear hl1
                go_wp2_with fail
                go_meet
                case rel => exact ⟨by rw [HO.out], rfl⟩
            case rest =>
              obtain ⟨rfl, rfl⟩ := hcut
              have e12 := hE2.2.2.2
              go_wp2_with fail
              (with_reducible refine (safe_any _ bw S 0 (by omega) hW).mono ?_)
              rintro e w6 ⟨rfl, rfl⟩
              cases hs0 : safeL S 0 with
              | false =>
                have HF3 := Lib.hid (show checkL b0 b1 ls = 12 by rw [HF2.out]; unfold endL; rw [hs0]; rfl)
                clear hs0
                go_wp2_with fail
                go_ret
                exact ⟨by rw [HF3.out]; rfl, hkr⟩
              | true =>
                cases how : oneWay ls with
                | true =>
                  have HF3 := Lib.hid (show checkL b0 b1 ls = 0 by rw [HF2.out]; unfold endL; rw [hs0, how]; rfl)
                  clear hs0 how
                  go_wp2_with fail
                  go_ret
                  exact ⟨by rw [HF3.out]; rfl, hkr⟩
                | false =>
                  have HF3 := Lib.hid (show checkL b0 b1 ls = if safeL S 1 then 0 else 12 by rw [HF2.out]; unfold endL; rw [hs0, how]; cases safeL S 1 <;> rfl)
                  clear hs0 how
                  go_wp2_with fail
                  (with_reducible refine (safe_any _ bw S 1 (by omega) hW).mono ?_)
                  rintro e w7 ⟨rfl, rfl⟩
                  cases hs1 : safeL S 1 with
                  | false =>
                    have HF4 := Lib.hid (show checkL b0 b1 ls = 12 by rw [HF3.out, hs1]; rfl)
                    clear hs1
                    go_wp2_with fail
                    go_ret
                    exact ⟨by rw [HF4.out]; rfl, hkr⟩
                  | true =>
                    have HF4 := Lib.hid (show checkL b0 b1 ls = 0 by rw [HF3.out, hs1]; rfl)
                    clear hs1
                    go_wp2_with fail
                    go_ret
                    exact ⟨by rw [HF4.out]; rfl, hkr⟩
end Go.Proofs.YtpemfmjplejdiaaDoor

namespace Go.Proofs.YtpemfmjplejdiaaDoor
open Go.RowKit

structure Mv where
  op : Int
  key : Int
  wth : Int
  deriving DecidableEq
def mvc (m : Mv) : List Value := [iv m.op, iv m.key, iv m.wth]
/-- A slice value's parts read a list of moves. -/
def Mvs (w : World) (ao : Option Addr) (n : Nat) (ms : List Mv) : Prop := ms.length = n ∧ n ≤ maxLen ∧ Cs w ao (ms.flatMap mvc)
theorem Kp.mvs {w w' : World} (h : Kp w w') {ao : Option Addr} {n : Nat} {ms : List Mv} (hx : Mvs w ao n ms) : Mvs w' ao n ms := ⟨hx.1, hx.2.1, h.cs hx.2.2⟩
theorem mvc_length (ms : List Mv) : (ms.flatMap mvc).length = ms.length * 3 := by
  induction ms with
  | nil => rfl
  | cons m r ih => simp only [List.flatMap_cons, List.length_append, ih, List.length_cons, mvc, List.length_nil]; omega
theorem mvc_get (ms : List Mv) (j : Nat) (h : j < ms.length) : (ms.flatMap mvc)[j * 3]? = some (iv ms[j].op) ∧ (ms.flatMap mvc)[j * 3 + 1]? = some (iv ms[j].key) ∧ (ms.flatMap mvc)[j * 3 + 2]? = some (iv ms[j].wth) := by
  induction ms generalizing j with
  | nil => simp at h
  | cons m r ih =>
    rcases j with _ | j
    · simp [mvc, List.flatMap_cons]
    · have := ih j (by simpa using h)
      have e : ∀ i, ((m :: r).flatMap mvc)[(j + 1) * 3 + i]? = (r.flatMap mvc)[j * 3 + i]? := fun i => by
        rw [List.flatMap_cons, List.getElem?_append_right (by simp [mvc]; omega)]
        congr 1
        simp [mvc]; omega
      have e0 := e 0
      simp only [Nat.add_zero] at e0
      simp only [List.getElem_cons_succ]
      exact ⟨by rw [e0]; exact this.1, by rw [e 1]; exact this.2.1, by rw [e 2]; exact this.2.2⟩

abbrev TK := Int × Bool
def keyV (k : TK) : Value := .agg #[.int .i64 k.1, .bool k.2]

theorem run_checkKey61_in (w : World) (b : Bool) (n : Nat) (k : TK) : (Instr.checkKey b (n + 2) 61 (keyV k)).run Tryd.prog w = .ok () w := by
  have p0 := part3 w #[.int .i64 k.1, .bool k.2] 0 (.int .i64 k.1) rfl
  have p1 := part4 w #[.int .i64 k.1, .bool k.2] 1 (.bool k.2) rfl
  unfold keyV
  simp [Instr.checkKey, run_underlying Tryd.underlying61, run_underlying Tryd.underlying3, run_underlying Tryd.underlying4, p0, p1]
theorem run_checkKey61 (w : World) (b : Bool) (k : TK) : (Instr.checkKey b 10000 61 (keyV k)).run Tryd.prog w = .ok () w := run_checkKey61_in w b 9998 k

theorem run_findAsking (w : World) (k : TK) : ∀ (es : List MapEntry) (i : Nat), (∀ e ∈ es, ∃ k' : TK, e.key = keyV k') →
    ((∀ e ∈ es, e.key ≠ keyV k) → (Instr.findAsking 61 (keyV k) es i).run Tryd.prog w = .ok none w) ∧
    ((∃ e ∈ es, e.key = keyV k) → ∃ j e, e ∈ es ∧ e.key = keyV k ∧ (Instr.findAsking 61 (keyV k) es i).run Tryd.prog w = .ok (some (j, e.val)) w)
  | [], i, _ => ⟨fun _ => by simp [Instr.findAsking], fun ⟨e, he, _⟩ => by simp at he⟩
  | x :: es, i, h => by
    obtain ⟨k', hk'⟩ := h x (by simp)
    have ih := run_findAsking w k es (i + 1) (fun e he => h e (by simp [he]))
    have he : (Op.equal 61 (keyV k) x.key).run Tryd.prog w = .ok (k.1 == k'.1 && k.2 == k'.2) w := by rw [hk']; exact eq61 w k.1 k'.1 k.2 k'.2
    by_cases hkk : k = k'
    · subst hkk
      refine ⟨fun hn => absurd hk' (hn x (by simp)), fun _ => ⟨i, x, by simp, hk', ?_⟩⟩
      simp [Instr.findAsking, he]
    · have hf : (k.1 == k'.1 && k.2 == k'.2) = false := by
        cases hq : (k.1 == k'.1 && k.2 == k'.2) with
        | false => rfl
        | true =>
          simp only [Bool.and_eq_true, beq_iff_eq] at hq
          exact absurd (Prod.ext hq.1 hq.2) hkk
      rw [hf] at he
      have hne : x.key ≠ keyV k := by
        rw [hk']
        intro hc
        simp only [keyV, Value.agg.injEq] at hc
        have := congrArg Array.toList hc
        simp at this
        exact hkk (Prod.ext this.1.symm this.2.symm)
      have hstep : (Instr.findAsking 61 (keyV k) (x :: es) i).run Tryd.prog w = (Instr.findAsking 61 (keyV k) es (i + 1)).run Tryd.prog w := by
        simp [Instr.findAsking, he]
      refine ⟨fun hn => by rw [hstep]; exact ih.1 (fun e he => hn e (by simp [he])), fun ⟨e, hm, hk2⟩ => ?_⟩
      rcases List.mem_cons.1 hm with rfl | hm
      · exact absurd hk2 hne
      · obtain ⟨j, e', h1, h2, h3⟩ := ih.2 ⟨e, hm, hk2⟩
        exact ⟨j, e', by simp [h1], h2, by rw [hstep]; exact h3⟩

theorem run_findKey61 (w : World) (k : TK) (es : List MapEntry) (h : ∀ e ∈ es, ∃ k' : TK, e.key = keyV k') :
    ((∀ e ∈ es, e.key ≠ keyV k) → (Instr.findKey 61 (keyV k) es).run Tryd.prog w = .ok none w) ∧
    ((∃ e ∈ es, e.key = keyV k) → ∃ j e, e ∈ es ∧ e.key = keyV k ∧ (Instr.findKey 61 (keyV k) es).run Tryd.prog w = .ok (some (j, e.val)) w) := by
  have hf := run_findAsking w k es 0 h
  cases es with
  | nil => exact ⟨fun _ => by simp [Instr.findKey, run_underlying Tryd.underlying61, Instr.findNow], fun ⟨e, he, _⟩ => by simp at he⟩
  | cons x es =>
    obtain ⟨k', hk'⟩ := h x (by simp)
    have hstep : (Instr.findKey 61 (keyV k) (x :: es)).run Tryd.prog w = (Instr.findAsking 61 (keyV k) (x :: es)).run Tryd.prog w := by
      simp [Instr.findKey, run_underlying Tryd.underlying61, Instr.findNow, Instr.sameNow]
    rw [hstep]
    exact hf

/-- The moves of a token, of a side. -/
def movesL (ini : Bool) (t : Int) (s : Bool) : List Mv :=
  if t = 1 then (if s then [⟨7, 1, 0⟩, ⟨3, 1, 0⟩] else [⟨8, 3, 0⟩, ⟨3, 3, 0⟩])
  else if t = 2 then (if s then [⟨9, 2, 0⟩] else [⟨10, 4, 0⟩])
  else if t = 7 then [⟨12, 0, 0⟩]
  else if ini then [⟨11, wantI t, wantR t + 2⟩] else [⟨11, wantR t, wantI t + 2⟩]

def MvsB (B : Nat) (w : World) (ao : Option Addr) (n : Nat) (ms : List Mv) : Prop := Mvs w ao n ms ∧ ∀ j ∈ blkL ao, B ≤ j
theorem Kp.mvsB {B : Nat} {w w' : World} (h : Kp w w') {ao : Option Addr} {n : Nat} {ms : List Mv} (hx : MvsB B w ao n ms) : MvsB B w' ao n ms := ⟨h.mvs hx.1, hx.2⟩
/-- The entries' stamps: below the clock, no two the same. -/
def Stp (arr : Array MapEntry) (clock : Nat) : Prop := (∀ e ∈ arr.toList, e.born < clock) ∧ (arr.toList.map (·.born)).Nodup
theorem Stp.nil (clock : Nat) : Stp #[] clock := ⟨fun e he => by simp at he, by simp⟩
theorem Stp.push {arr : Array MapEntry} {clock : Nat} (h : Stp arr clock) (key val : Value) : Stp (arr.push { key := key, val := val, born := clock }) (clock + 1) := by
  obtain ⟨h1, h2⟩ := h
  refine ⟨fun e he => ?_, ?_⟩
  · rw [Array.toList_push, List.mem_append, List.mem_singleton] at he
    rcases he with he | rfl
    · have := h1 e he; omega
    · exact Nat.lt_succ_self _
  · rw [Array.toList_push, List.map_append, List.nodup_append]
    refine ⟨h2, by simp, fun a ha b hb hab => ?_⟩
    obtain ⟨e, he, rfl⟩ := List.mem_map.1 ha
    simp only [List.map_cons, List.map_nil, List.mem_singleton] at hb
    have := h1 e he
    omega
/-- Block r is a map with these keys, and behind each its moves, in blocks from B on. -/
def MapIn (w : World) (r B : Nat) (ini : Bool) (K : List TK) : Prop := ∃ arr clock, w.heap[r]? = some (.map arr clock) ∧
  (∀ e ∈ arr.toList, ∃ k ∈ K, e.key = keyV k ∧ ∃ ao n cap, e.val = .slice ao n cap ∧ MvsB B w ao n (movesL ini k.1 k.2)) ∧ (∀ k ∈ K, ∃ e ∈ arr.toList, e.key = keyV k) ∧ Stp arr clock

theorem cell_map {w : World} {r : Nat} {arr : Array MapEntry} {clock : Nat} (h : w.heap[r]? = some (.map arr clock)) (j : Nat) : w.cell? ⟨r, j, none⟩ = none := by
  simp [World.cell?, h]
theorem Fr.cs_map {w w' : World} {r : Nat} {arr : Array MapEntry} {clock : Nat} (h : w.heap[r]? = some (.map arr clock)) (k : Fr [r] w w') {ao : Option Addr} {xs : List Value} (hx : Cs w ao xs) : Cs w' ao xs := fun j u hu => by
  obtain ⟨b, off, e, hc⟩ := hx j u hu
  refine ⟨b, off, e, k.cell hc ?_⟩
  simp only [List.mem_singleton]
  rintro rfl
  rw [cell_map h] at hc
  cases hc
theorem Fr.mvs_map {w w' : World} {r : Nat} {arr : Array MapEntry} {clock : Nat} (h : w.heap[r]? = some (.map arr clock)) (k : Fr [r] w w') {ao : Option Addr} {n : Nat} {ms : List Mv} (hx : Mvs w ao n ms) : Mvs w' ao n ms := ⟨hx.1, hx.2.1, Fr.cs_map h k hx.2.2⟩
theorem Fr.mvsB_map {B : Nat} {w w' : World} {r : Nat} {arr : Array MapEntry} {clock : Nat} (h : w.heap[r]? = some (.map arr clock)) (k : Fr [r] w w') {ao : Option Addr} {n : Nat} {ms : List Mv} (hx : MvsB B w ao n ms) : MvsB B w' ao n ms := ⟨Fr.mvs_map h k hx.1, hx.2⟩
theorem Kp.mapIn {w w' : World} (h : Kp w w') {r B : Nat} {ini : Bool} {K : List TK} (hx : MapIn w r B ini K) : MapIn w' r B ini K := by
  obtain ⟨arr, clock, h1, h2, h3⟩ := hx
  refine ⟨arr, clock, ?_, fun e he => ?_, h3⟩
  · rw [h.block r (Array.getElem?_eq_some_iff.1 h1).1]; exact h1
  · obtain ⟨k, hk, hkey, ao, n, cap, hv, hm⟩ := h2 e he
    exact ⟨k, hk, hkey, ao, n, cap, hv, h.mvsB hm⟩
theorem MapIn.new (w : World) (B : Nat) (ini : Bool) (clock : Nat) : MapIn (w.alloc (.map #[] clock)) w.heap.size B ini [] :=
  ⟨#[], clock, heap_alloc_new w _, fun e he => by simp at he, fun k hk => by simp at hk, Stp.nil _⟩

theorem getMap_run {w : World} {r : Nat} {arr : Array MapEntry} {clock : Nat} (h : w.heap[r]? = some (.map arr clock)) : (getObj r).run Tryd.prog w = .ok (.map arr clock) w := by
  simp [getObj, Sem.run, h]
theorem setMap_run {w : World} {r : Nat} {arr : Array MapEntry} {clock : Nat} (o : Obj) (h : w.heap[r]? = some (.map arr clock)) : (setObj r o).run Tryd.prog w = .ok () { w with heap := w.heap.setIfInBounds r o } := by
  simp [setObj, Sem.run, h]
theorem MapIn.low {w : World} {r B B' : Nat} (hB : B' ≤ B) {ini : Bool} {K : List TK} (h : MapIn w r B ini K) : MapIn w r B' ini K := by
  obtain ⟨arr, clock, h1, h2, h3⟩ := h
  refine ⟨arr, clock, h1, fun e he => ?_, h3⟩
  obtain ⟨k, hk, hkey, ao, n, cap, hv, hm, hb⟩ := h2 e he
  exact ⟨k, hk, hkey, ao, n, cap, hv, hm, fun j hj => Nat.le_trans hB (hb j hj)⟩
/-- The map is kept, where its own blocks are. -/
theorem MapIn.keep {w w' : World} {r B : Nat} {ini : Bool} {K : List TK} (h : MapIn w r B ini K) {X : List Nat} (k : Fr X w w') (hr : r ∉ X) (hX : ∀ j ∈ X, j < B ∨ w.heap.size ≤ j) : MapIn w' r B ini K := by
  obtain ⟨arr, clock, h1, h2, h3⟩ := h
  refine ⟨arr, clock, ?_, fun e he => ?_, h3⟩
  · rw [k.block r (Array.getElem?_eq_some_iff.1 h1).1 hr]; exact h1
  · obtain ⟨q, hq, hkey, ao, n, cap, hv, hm, hb⟩ := h2 e he
    refine ⟨q, hq, hkey, ao, n, cap, hv, ⟨hm.1, hm.2.1, fun j u hu => ?_⟩, hb⟩
    obtain ⟨b, off, e', hc⟩ := hm.2.2 j u hu
    refine ⟨b, off, e', k.cell hc (fun hx => ?_)⟩
    have h4 := hb b (by rw [e']; exact mem_blkL_some.2 rfl)
    have h5 := World.block_lt_of_cell? w _ hc
    have := hX b hx
    simp only at h5
    omega
theorem keyV_inj {k k' : TK} (h : keyV k = keyV k') : k = k' := by
  simp only [keyV, Value.agg.injEq] at h
  have := congrArg Array.toList h
  simp at this
  exact Prod.ext this.1 this.2

theorem MapIn.put {w : World} {r B : Nat} {ini : Bool} {K : List TK} (h : MapIn w r B ini K) (k : TK) (hk : k ∉ K) {ao : Option Addr} {n cap : Nat} (hm : MvsB B w ao n (movesL ini k.1 k.2)) :
    ∃ w', (Instr.mapUpdate 58 (.map (some r)) (keyV k) (.slice ao n cap)).run Tryd.prog w = .ok () w' ∧ MapIn w' r B ini (k :: K) ∧ Fr [r] w w' := by
  obtain ⟨arr, clock, h1, h2, h3⟩ := h
  have hkeys : ∀ e ∈ arr.toList, ∃ k' : TK, e.key = keyV k' := fun e he => by obtain ⟨k', _, h, _⟩ := h2 e he; exact ⟨k', h⟩
  have hnone := (run_findKey61 w k arr.toList hkeys).1 (fun e he hc => by
    obtain ⟨k', hk', h, _⟩ := h2 e he
    exact hk (by rw [keyV_inj (hc.symm.trans h)]; exact hk'))
  have hlt : r < w.heap.size := (Array.getElem?_eq_some_iff.1 h1).1
  have hFr : Fr [r] w { w with heap := w.heap.setIfInBounds r (.map (arr.push { key := keyV k, val := .slice ao n cap, born := clock }) (clock + 1)) } :=
    ⟨rfl, rfl, rfl, by simp, fun i _ hi => by
      simp only [List.mem_singleton] at hi
      simp [Ne.symm hi]⟩
  refine ⟨_, ?_, ⟨arr.push { key := keyV k, val := .slice ao n cap, born := clock }, clock + 1, by simp [hlt], fun e he => ?_, fun k' hk' => ?_, h3.2.push _ _⟩, hFr⟩
  · simp only [Instr.mapUpdate, Sem.run_bind, run_underlying Tryd.underlying58, Result.andThen_ok, getMap_run h1, run_checkKey61, hnone, setMap_run _ h1]
  · rw [Array.toList_push, List.mem_append, List.mem_singleton] at he
    rcases he with he | rfl
    · obtain ⟨k', hk', hkey, ao', n', cap', hv, hm'⟩ := h2 e he
      exact ⟨k', by simp [hk'], hkey, ao', n', cap', hv, Fr.mvsB_map h1 hFr hm'⟩
    · exact ⟨k, by simp, rfl, ao, n, cap, rfl, Fr.mvsB_map h1 hFr hm⟩
  · rcases List.mem_cons.1 hk' with rfl | hk'
    · exact ⟨_, by rw [Array.toList_push]; exact List.mem_append_right _ (List.mem_singleton.2 rfl), rfl⟩
    · obtain ⟨e, he, hke⟩ := h3.1 k' hk'
      exact ⟨e, by rw [Array.toList_push]; exact List.mem_append_left _ he, hke⟩

theorem MapIn.get {w : World} {r B : Nat} {ini : Bool} {K : List TK} (h : MapIn w r B ini K) (k : TK) (hk : k ∈ K) :
    ∃ ao n cap, (Instr.lookup 58 (.map (some r)) (keyV k) false).run Tryd.prog w = .ok (.slice ao n cap) w ∧ MvsB B w ao n (movesL ini k.1 k.2) := by
  obtain ⟨arr, clock, h1, h2, h3⟩ := h
  have hkeys : ∀ e ∈ arr.toList, ∃ k' : TK, e.key = keyV k' := fun e he => by obtain ⟨k', _, h, _⟩ := h2 e he; exact ⟨k', h⟩
  obtain ⟨j, e, he, hke, hrun⟩ := (run_findKey61 w k arr.toList hkeys).2 (h3.1 k hk)
  obtain ⟨k', _, hk', ao, n, cap, hv, hm⟩ := h2 e he
  obtain rfl : k = k' := keyV_inj (hke.symm.trans hk')
  rw [hv] at hrun
  refine ⟨ao, n, cap, ?_, hm⟩
  simp [Instr.lookup, run_underlying Tryd.underlying58, getMap_run h1, run_checkKey61, hrun]
end Go.Proofs.YtpemfmjplejdiaaDoor

namespace Go.Proofs.YtpemfmjplejdiaaDoor
open Go.RowKit

def mvv (m : Mv) : Value := .agg #[iv m.op, iv m.key, iv m.wth]
theorem mvv_inj {m m' : Mv} (h : mvv m = mvv m') : m = m' := by
  simp only [mvv, Value.agg.injEq] at h
  have := congrArg Array.toList h
  simp at this
  obtain ⟨a, b, c⟩ := m
  obtain ⟨a', b', c'⟩ := m'
  simp at this
  simp [this]
theorem run_checkKey42_in (w : World) (b : Bool) (n : Nat) (m : Mv) : (Instr.checkKey b (n + 2) 42 (mvv m)).run Tryd.prog w = .ok () w := by
  have p0 := part3 w #[iv m.op, iv m.key, iv m.wth] 0 (iv m.op) rfl
  have p1 := part3 w #[iv m.op, iv m.key, iv m.wth] 1 (iv m.key) rfl
  have p2 := part3 w #[iv m.op, iv m.key, iv m.wth] 2 (iv m.wth) rfl
  unfold mvv
  simp [Instr.checkKey, run_underlying Tryd.underlying42, run_underlying Tryd.underlying3, p0, p1, p2]
theorem run_checkKey42 (w : World) (b : Bool) (m : Mv) : (Instr.checkKey b 10000 42 (mvv m)).run Tryd.prog w = .ok () w := run_checkKey42_in w b 9998 m
theorem mv_dec (m m' : Mv) : (m.op == m'.op && (m.key == m'.key && m.wth == m'.wth)) = decide (m = m') := by
  obtain ⟨a, b, c⟩ := m
  obtain ⟨a', b', c'⟩ := m'
  rw [Bool.eq_iff_iff]
  simp
theorem eqq42 (w : World) (m m' : Mv) : (Op.equal 42 (mvv m) (mvv m')).run Tryd.prog w = .ok (decide (m = m')) w := by
  have := eq42_in w 9998 m.op m.key m.wth m'.op m'.key m'.wth
  rw [mv_dec] at this
  unfold mvv
  simpa [Op.equal, Op.maxDepth] using this
theorem run_findAsk42 (w : World) (m : Mv) : ∀ (es : List MapEntry) (i : Nat), (∀ e ∈ es, ∃ m' : Mv, e.key = mvv m') →
    ((∀ e ∈ es, e.key ≠ mvv m) → (Instr.findAsking 42 (mvv m) es i).run Tryd.prog w = .ok none w) ∧
    ((∃ e ∈ es, e.key = mvv m) → ∃ j e, es[j]? = some e ∧ e.key = mvv m ∧ (Instr.findAsking 42 (mvv m) es i).run Tryd.prog w = .ok (some (i + j, e.val)) w)
  | [], i, _ => ⟨fun _ => by simp [Instr.findAsking], fun ⟨e, he, _⟩ => by simp at he⟩
  | x :: es, i, h => by
    obtain ⟨m', hm'⟩ := h x (by simp)
    have ih := run_findAsk42 w m es (i + 1) (fun e he => h e (by simp [he]))
    have he : (Op.equal 42 (mvv m) x.key).run Tryd.prog w = .ok (decide (m = m')) w := by rw [hm']; exact eqq42 w m m'
    by_cases hmm : m = m'
    · subst hmm
      refine ⟨fun hn => absurd hm' (hn x (by simp)), fun _ => ⟨0, x, by simp, hm', ?_⟩⟩
      simp [Instr.findAsking, he]
    · rw [decide_eq_false hmm] at he
      have hne : x.key ≠ mvv m := by
        rw [hm']
        intro hc
        exact hmm (mvv_inj hc).symm
      have hstep : (Instr.findAsking 42 (mvv m) (x :: es) i).run Tryd.prog w = (Instr.findAsking 42 (mvv m) es (i + 1)).run Tryd.prog w := by
        simp [Instr.findAsking, he]
      refine ⟨fun hn => by rw [hstep]; exact ih.1 (fun e he => hn e (by simp [he])), fun ⟨e, hm, hk2⟩ => ?_⟩
      rcases List.mem_cons.1 hm with rfl | hm
      · exact absurd hk2 hne
      · obtain ⟨j, e', h1, h2, h3⟩ := ih.2 ⟨e, hm, hk2⟩
        exact ⟨j + 1, e', by simpa using h1, h2, by refine hstep.trans (h3.trans ?_); rw [show i + 1 + j = i + (j + 1) by omega]⟩
theorem run_findKey42 (w : World) (m : Mv) (es : List MapEntry) (h : ∀ e ∈ es, ∃ m' : Mv, e.key = mvv m') :
    ((∀ e ∈ es, e.key ≠ mvv m) → (Instr.findKey 42 (mvv m) es).run Tryd.prog w = .ok none w) ∧
    ((∃ e ∈ es, e.key = mvv m) → ∃ j e, es[j]? = some e ∧ e.key = mvv m ∧ (Instr.findKey 42 (mvv m) es).run Tryd.prog w = .ok (some (j, e.val)) w) := by
  have hf := run_findAsk42 w m es 0 h
  cases es with
  | nil => exact ⟨fun _ => by simp [Instr.findKey, run_underlying Tryd.underlying42, Instr.findNow], fun ⟨e, he, _⟩ => by simp at he⟩
  | cons x es =>
    have hstep : (Instr.findKey 42 (mvv m) (x :: es)).run Tryd.prog w = (Instr.findAsking 42 (mvv m) (x :: es) 0).run Tryd.prog w := by
      simp [Instr.findKey, run_underlying Tryd.underlying42, Instr.findNow, Instr.sameNow]
    rw [hstep]
    refine ⟨hf.1, fun hx => ?_⟩
    obtain ⟨j, e, h1, h2, h3⟩ := hf.2 hx
    exact ⟨j, e, h1, h2, by rw [h3, Nat.zero_add]⟩

/-- Block r is a map; D says what number stands behind a move. -/
def BkIn (w : World) (r : Nat) (D : Mv → Option Int) : Prop := ∃ arr clock, w.heap[r]? = some (.map arr clock) ∧
  (∀ e ∈ arr.toList, ∃ m t, e.key = mvv m ∧ e.val = iv t ∧ D m = some t) ∧ (∀ m t, D m = some t → ∃ e ∈ arr.toList, e.key = mvv m)
theorem BkIn.new (w : World) (clock : Nat) : BkIn (w.alloc (.map #[] clock)) w.heap.size (fun _ => none) :=
  ⟨#[], clock, heap_alloc_new w _, fun e he => by simp at he, fun m t h => by cases h⟩
theorem BkIn.fr {w w' : World} {r : Nat} {D : Mv → Option Int} (h : BkIn w r D) {X : List Nat} (k : Fr X w w') (hr : r ∉ X) : BkIn w' r D := by
  obtain ⟨arr, clock, h1, h2, h3⟩ := h
  refine ⟨arr, clock, ?_, h2, h3⟩
  rw [k.block r (Array.getElem?_eq_some_iff.1 h1).1 hr]; exact h1
theorem BkIn.kp {w w' : World} {r : Nat} {D : Mv → Option Int} (h : BkIn w r D) (k : Kp w w') : BkIn w' r D := h.fr (Fr.of_kp k) (by simp)
theorem BkIn.congr {w : World} {r : Nat} {D D' : Mv → Option Int} (h : BkIn w r D) (hD : ∀ m, D m = D' m) : BkIn w r D' := by
  have : D = D' := funext hD
  rwa [← this]
theorem BkIn.lt {w : World} {r : Nat} {D : Mv → Option Int} (h : BkIn w r D) : r < w.heap.size := by
  obtain ⟨arr, clock, h1, _⟩ := h
  exact (Array.getElem?_eq_some_iff.1 h1).1
def updD (D : Mv → Option Int) (m : Mv) (t : Int) : Mv → Option Int := fun x => if x = m then some t else D x
theorem sameBits_mvv (n : Nat) (m : Mv) : Instr.sameBits (n + 2) (mvv m) (mvv m) = true := by
  simp [Instr.sameBits, mvv]

theorem BkIn.put {w : World} {r : Nat} {D : Mv → Option Int} (h : BkIn w r D) (m : Mv) (t : Int) (hD : D m = none ∨ D m = some t) :
    ∃ w', (Instr.mapUpdate 68 (.map (some r)) (mvv m) (iv t)).run Tryd.prog w = .ok () w' ∧ BkIn w' r (updD D m t) ∧ Fr [r] w w' := by
  obtain ⟨arr, clock, h1, h2, h3⟩ := h
  have hkeys : ∀ e ∈ arr.toList, ∃ m' : Mv, e.key = mvv m' := fun e he => by obtain ⟨m', _, h, _⟩ := h2 e he; exact ⟨m', h⟩
  have hlt : r < w.heap.size := (Array.getElem?_eq_some_iff.1 h1).1
  have hFr : ∀ o, Fr [r] w { w with heap := w.heap.setIfInBounds r o } := fun o =>
    ⟨rfl, rfl, rfl, by simp, fun i _ hi => by
      simp only [List.mem_singleton] at hi
      simp [Ne.symm hi]⟩
  rcases hD with hD | hD
  · have hnone := (run_findKey42 w m arr.toList hkeys).1 (fun e he hc => by
      obtain ⟨m', t', hk, _, hd⟩ := h2 e he
      rw [mvv_inj (hk.symm.trans hc), hD] at hd
      cases hd)
    refine ⟨_, ?_, ⟨arr.push { key := mvv m, val := iv t, born := clock }, clock + 1, by simp [hlt], fun e he => ?_, fun m' t' hd => ?_⟩, hFr (.map (arr.push { key := mvv m, val := iv t, born := clock }) (clock + 1))⟩
    · simp only [Instr.mapUpdate, Sem.run_bind, run_underlying Tryd.underlying68, Result.andThen_ok, getMap_run h1, run_checkKey42, hnone, setMap_run _ h1]
    · rw [Array.toList_push, List.mem_append, List.mem_singleton] at he
      rcases he with he | rfl
      · obtain ⟨m', t', hk, hv, hd⟩ := h2 e he
        refine ⟨m', t', hk, hv, ?_⟩
        unfold updD
        rw [if_neg (fun hm => by rw [hm, hD] at hd; cases hd)]
        exact hd
      · exact ⟨m, t, rfl, rfl, by simp [updD]⟩
    · unfold updD at hd
      split at hd
      · rename_i hm
        subst hm
        exact ⟨_, by rw [Array.toList_push]; exact List.mem_append_right _ (List.mem_singleton.2 rfl), rfl⟩
      · obtain ⟨e, he, hk⟩ := h3 m' t' hd
        exact ⟨e, by rw [Array.toList_push]; exact List.mem_append_left _ he, hk⟩
  · obtain ⟨j, e, hj, hk, hrun⟩ := (run_findKey42 w m arr.toList hkeys).2 (h3 m t hD)
    have hja : arr[j]? = some e := by simpa using hj
    have hupd : updD D m t = D := by
      funext x
      unfold updD
      split
      · rename_i hx; subst hx; exact hD.symm
      · rfl
    rw [hupd]
    refine ⟨_, ?_, ⟨arr.modify j fun e => { e with key := mvv m, val := iv t }, clock, by simp [hlt], fun e' he' => ?_, fun m' t' hd => ?_⟩, hFr (.map (arr.modify j fun e => { e with key := mvv m, val := iv t }) clock)⟩
    · simp only [Instr.mapUpdate, Sem.run_bind, run_underlying Tryd.underlying68, Result.andThen_ok, getMap_run h1, run_checkKey42, hrun, hja, Option.map_some, Option.getD_some, hk, Instr.keyThatStays]
      rw [show Instr.sameBits 10000 (mvv m) (mvv m) = true from sameBits_mvv 9998 m]
      simp only [if_true, Sem.run_pure, Result.andThen_ok, setMap_run _ h1]
    · rw [Array.toList_modify] at he'
      obtain ⟨i, hi, rfl⟩ := List.getElem_of_mem he'
      rw [List.getElem_modify]
      split
      · exact ⟨m, t, rfl, rfl, hD⟩
      · exact h2 _ (List.getElem_mem _)
    · obtain ⟨e', he', hk'⟩ := h3 m' t' hd
      obtain ⟨i, hi, rfl⟩ := List.getElem_of_mem he'
      by_cases hij : j = i
      · subst hij
        have : arr.toList[j] = e := by
          have := List.getElem?_eq_getElem hi
          rw [hj] at this
          exact (Option.some.inj this).symm
        rw [this, hk] at hk'
        refine ⟨{ e with key := mvv m, val := iv t }, ?_, by rw [← hk']⟩
        rw [Array.toList_modify]
        refine List.mem_iff_getElem.2 ⟨j, by simpa using hi, ?_⟩
        rw [List.getElem_modify, if_pos rfl, this]
      · refine ⟨arr.toList[i], ?_, hk'⟩
        rw [Array.toList_modify]
        refine List.mem_iff_getElem.2 ⟨i, by simpa using hi, ?_⟩
        rw [List.getElem_modify, if_neg hij]

theorem BkIn.get {w : World} {r : Nat} {D : Mv → Option Int} (h : BkIn w r D) (m : Mv) :
    (Instr.lookup 68 (.map (some r)) (mvv m) true).run Tryd.prog w = .ok (.tuple #[iv ((D m).getD 0), .bool (D m).isSome]) w := by
  obtain ⟨arr, clock, h1, h2, h3⟩ := h
  have hkeys : ∀ e ∈ arr.toList, ∃ m' : Mv, e.key = mvv m' := fun e he => by obtain ⟨m', _, h, _⟩ := h2 e he; exact ⟨m', h⟩
  cases hD : D m with
  | none =>
    have hnone := (run_findKey42 w m arr.toList hkeys).1 (fun e he hc => by
      obtain ⟨m', t', hk, _, hd⟩ := h2 e he
      rw [mvv_inj (hk.symm.trans hc), hD] at hd
      cases hd)
    have hz := Tryd.zeroValue3
    simp [Instr.lookup, run_underlying Tryd.underlying68, getMap_run h1, run_checkKey42, hnone, hz]
  | some t =>
    obtain ⟨j, e, hj, hk, hrun⟩ := (run_findKey42 w m arr.toList hkeys).2 (h3 m t hD)
    obtain ⟨m', t', hk', hv, hd⟩ := h2 e (List.mem_of_getElem? hj)
    rw [← mvv_inj (hk.symm.trans hk'), hD] at hd
    cases hd
    rw [hv] at hrun
    simp [Instr.lookup, run_underlying Tryd.underlying68, getMap_run h1, run_checkKey42, hrun]
end Go.Proofs.YtpemfmjplejdiaaDoor

namespace Go.Proofs.YtpemfmjplejdiaaDoor
open Go.RowKit

/-- As Q; by a goto to label l: J l. -/
def Exit.jumps (J : Nat → Act → World → Prop) (Q : Exit → Act → World → Prop) : Exit → Act → World → Prop
  | .goto l, a, w => J l a w
  | e, a, w => Q e a w
theorem jumps_goto (J : Nat → Act → World → Prop) (Q : Exit → Act → World → Prop) (l : Nat) (a : Act) (w : World) : Exit.jumps J Q (.goto l) a w = J l a w := rfl
theorem jumps_ret (J : Nat → Act → World → Prop) (Q : Exit → Act → World → Prop) (a : Act) (w : World) : Exit.jumps J Q .ret a w = Q .ret a w := rfl
theorem jumps_mono {J J' : Nat → Act → World → Prop} {Q : Exit → Act → World → Prop} (h : ∀ l a w, J l a w → J' l a w) : ∀ e a w, Exit.jumps J Q e a w → Exit.jumps J' Q e a w := by
  intro e a w hq
  cases e <;> first | exact hq | exact h _ _ _ hq

section
variable {P : Program} {a : Act} {w : World} {Q : Exit → Act → World → Prop}
theorem wp_scope_labels {c : Code} (J : Nat → Act → World → Prop) (μ : Nat → Act → World → Nat)
    (first : c.wp P (Exit.jumps J Q) a w)
    (pass : ∀ l a w, J l a w → ∃ rest, findLabel c l = some rest ∧ rest.wp P (Exit.jumps (fun l' a' w' => J l' a' w' ∧ μ l' a' w' < μ l a w) Q) a w) : (Code.scope c).wp P Q a w := by
  intro b k cs
  have hg : ∀ l rest, findLabel c l = some rest → gotoIn l (.inScope c :: k) = some (.code rest :: .inScope c :: k) := fun l rest h => by simp [gotoIn, h]
  have key : ∀ n l a w rest, μ l a w = n → J l a w → findLabel c l = some rest → ∃ e a' w', Q e a' w' ∧ Arrives P (lone (b.at a (.code rest :: .inScope c :: k)) cs w) b k cs e a' w' := by
    intro n
    induction n using Nat.strongRecOn with
    | _ n ih =>
      intro l a w rest hn hJ hf
      obtain ⟨rest', hf', hp⟩ := pass l a w hJ
      rw [hf] at hf'
      obtain rfl : rest = rest' := Option.some.inj hf'
      obtain ⟨e, a₁, w₁, hq, harr⟩ := hp b (.inScope c :: k) cs
      cases e with
      | normal => exact ⟨.normal, a₁, w₁, hq, Steps.trans harr (.one step_inScope)⟩
      | exit id => exact ⟨.exit id, a₁, w₁, hq, fun k' hk => harr k' (by simp [exitTo, hk])⟩
      | goto l' =>
        obtain ⟨hJ', hlt⟩ := hq
        obtain ⟨rest2, hf2, _⟩ := pass l' a₁ w₁ hJ'
        obtain ⟨e₂, a₂, w₂, hq₂, harr₂⟩ := ih _ (by omega) l' a₁ w₁ rest2 rfl hJ' hf2
        exact ⟨e₂, a₂, w₂, hq₂, .of_steps (harr _ (hg _ _ hf2)) harr₂⟩
      | ret => exact ⟨_, a₁, w₁, hq, harr⟩
      | panic ch => exact ⟨_, a₁, w₁, hq, harr⟩
      | outgrown => exact ⟨_, a₁, w₁, hq, harr⟩
  obtain ⟨e, a₁, w₁, hq, harr⟩ := first b (.inScope c :: k) cs
  cases e with
  | normal => exact ⟨.normal, a₁, w₁, hq, .head step_scope (Steps.trans harr (.one step_inScope))⟩
  | exit id => exact ⟨.exit id, a₁, w₁, hq, fun k' hk => .head step_scope (harr k' (by simp [exitTo, hk]))⟩
  | goto l' =>
    obtain ⟨rest2, hf2, _⟩ := pass l' a₁ w₁ hq
    obtain ⟨e₂, a₂, w₂, hq₂, harr₂⟩ := key _ l' a₁ w₁ rest2 rfl hq hf2
    exact ⟨e₂, a₂, w₂, hq₂, .of_steps (.head step_scope (harr _ (hg _ _ hf2))) harr₂⟩
  | ret => exact ⟨_, a₁, w₁, hq, .of_steps (.one step_scope) harr⟩
  | panic ch => exact ⟨_, a₁, w₁, hq, .of_steps (.one step_scope) harr⟩
  | outgrown => exact ⟨_, a₁, w₁, hq, .of_steps (.one step_scope) harr⟩
end

/-! ### A loop over a map -/
/-- Block r goes over the map of block b; the stamps in 'seen' have been. -/
def Rg (w : World) (b r : Nat) (es : Array MapEntry) (seen : Array Nat) : Prop := ∃ clock since c0, w.heap[b]? = some (.map es clock) ∧ w.heap[r]? = some (.mapIter (some b) since seen c0) ∧ (∀ x ∈ es.toList, x.born < since) ∧ since ≤ c0 ∧ since ≤ clock ∧ (es.toList.map (·.born)).Nodup
theorem Rg.lt {w : World} {b r : Nat} {es : Array MapEntry} {seen : Array Nat} (h : Rg w b r es seen) : b < w.heap.size ∧ r < w.heap.size ∧ r ≠ b := by
  obtain ⟨clock, since, c0, h1, h2, _⟩ := h
  refine ⟨(Array.getElem?_eq_some_iff.1 h1).1, (Array.getElem?_eq_some_iff.1 h2).1, ?_⟩
  rintro rfl
  rw [h1] at h2; cases h2
theorem Rg.fr {X : List Nat} {w w' : World} {b r : Nat} {es : Array MapEntry} {seen : Array Nat} (h : Rg w b r es seen) (k : Fr X w w') (hb : b ∉ X) (hr : r ∉ X) : Rg w' b r es seen := by
  obtain ⟨lb, lr, _⟩ := h.lt
  obtain ⟨clock, since, c0, h1, h2, h3⟩ := h
  exact ⟨clock, since, c0, (k.block b lb hb).trans h1, (k.block r lr hr).trans h2, h3⟩
theorem Rg.left {w : World} {b r : Nat} {es : Array MapEntry} {seen : Array Nat} (h : Rg w b r es seen) : w.rangeLeft b r = (leftOf es seen).size := by
  obtain ⟨clock, since, c0, h1, h2, _⟩ := h
  simp only [World.rangeLeft, h1, h2]
theorem Rg.start {w : World} {b : Nat} {es : Array MapEntry} {clock : Nat} (h : w.heap[b]? = some (.map es clock)) (hs : Stp es clock) : Rg (w.alloc (.mapIter (some b) clock #[] clock)) b w.heap.size es #[] := by
  have hb := (Array.getElem?_eq_some_iff.1 h).1
  refine ⟨clock, clock, clock, ?_, heap_alloc_new w _, hs.1, Nat.le_refl _, Nat.le_refl _, hs.2⟩
  rw [(Kp.new w (.mapIter (some b) clock #[] clock)).block b hb]; exact h
theorem Rg.next {P : Program} {w : World} {b r : Nat} {es : Array MapEntry} {seen : Array Nat} (h : Rg w b r es seen) (ty : TypeId) :
    ((leftOf es seen).size = 0 ∧ (Instr.next (.pointer (some ⟨r, 0, none⟩)) false ty).run P w = .ok (.tuple #[.bool false]) w) ∨
    ∃ e ∈ es.toList, ∃ w', (Instr.next (.pointer (some ⟨r, 0, none⟩)) false ty).run P w = .ok (.tuple #[.bool true, e.key, e.val]) w' ∧ Rg w' b r es (seen.push e.born) ∧ (leftOf es (seen.push e.born)).size < (leftOf es seen).size ∧ Fr [r] w w' ∧
      (Instr.entry (.pointer (some ⟨r, 0, none⟩))).run P w' = .ok (.tuple #[e.key, e.val]) w' := by
  obtain ⟨_, lr, hne⟩ := h.lt
  obtain ⟨clock, since, c0, h1, h2, h3, h4, h5, h6⟩ := h
  rcases run_next_at (P := P) w ty r b since c0 seen es clock h2 h1 h3 h4 with h | ⟨e, he, w1, hw, hrun⟩
  · exact .inl h
  · obtain ⟨hm, hs⟩ := mem_left he
    have hw1 : w1.heap = w.heap ∧ w1.os = w.os ∧ w1.tape = w.tape ∧ w1.output = w.output := by rcases hw with rfl | rfl <;> exact ⟨rfl, rfl, rfl, rfl⟩
    have hset := MapKept.heap_set (w := w1) (o' := .mapIter (some b) since (seen.push e.born) clock) (show w1.heap[r]? = _ by rw [hw1.1]; exact h2)
    have hb' : (Go.ChangeMaps.setBlock w1 r (.mapIter (some b) since (seen.push e.born) clock)).heap[b]? = some (.map es clock) := (hset.2 b (fun e1 => hne e1.symm)).trans (by rw [hw1.1]; exact h1)
    refine .inr ⟨e, hm, _, hrun, ⟨clock, since, clock, hb', hset.1, h3, h5, h5, h6⟩, left_shrinks es seen e he, ?_, run_entry_at _ r b since seen es clock e hset.1 hb' hm h6⟩
    refine ⟨hw1.2.1, hw1.2.2.1, hw1.2.2.2, by simp [Go.ChangeMaps.setBlock, hw1.1], fun i _ hi => ?_⟩
    rw [show (Go.ChangeMaps.setBlock w1 r (.mapIter (some b) since (seen.push e.born) clock)).heap[i]? = w1.heap[i]? from hset.2 i (fun e1 => hi (by simp [e1])), hw1.1]
theorem Rg.all {es : Array MapEntry} {seen : Array Nat} (h : (leftOf es seen).size = 0) : ∀ x ∈ es.toList, seen.contains x.born = true := all_seen es seen h
end Go.Proofs.YtpemfmjplejdiaaDoor

namespace Go.Proofs.YtpemfmjplejdiaaDoor
open Go.ChangeShapes Go.WideShapes Go.RowKit Go.Deep

theorem weights_of_mem {H : Type} {P : Program} {e : TypeId} {x : Nat} : ∀ {l : List (DataW H)} {d : DataW H}, d ∈ l → x ∈ d.weights P e → x ∈ DataW.weightsAll P e l
  | d0 :: r, d, hd, hx => by
    simp only [DataW.weightsAll, List.mem_append]
    rcases List.mem_cons.1 hd with rfl | hd
    · exact .inl hx
    · exact .inr (weights_of_mem hd hx)
/-- What the row says of each argument's size. -/
theorem weights_at {H : Type} {P : Program} {gs : List (DataW H)} {t : TypeId} {d : DataW H} : ∀ {ts : List TypeId} {ds : List (DataW H)} {j : Nat}, (DataW.weightsEach P (ts ++ []) (ds ++ gs)).all (· ≤ reachBytes) = true → ts[j]? = some t → ds[j]? = some d → ∀ k ∈ d.weights P t, k ≤ 140737488351232
  | t0 :: ts, d0 :: ds, 0, h, ht, hd => by
    obtain rfl : t0 = t := by simpa using ht
    obtain rfl : d0 = d := by simpa using hd
    intro k hk
    simp only [List.cons_append, DataW.weightsEach, List.all_append, Bool.and_eq_true] at h
    have := of_decide_eq_true (List.all_eq_true.1 h.1 k hk)
    exact this
  | t0 :: ts, d0 :: ds, j + 1, h, ht, hd => by
    simp only [List.cons_append, DataW.weightsEach, List.all_append, Bool.and_eq_true] at h
    exact weights_at h.2 (by simpa using ht) (by simpa using hd)
  | [], _, _, _, ht, _ => by simp at ht
  | _ :: _, [], _, _, _, hd => by simp at hd

/-- A slice of numbers in a cell. -/
theorem is_of_cells {H : Type} {enc : TypeId × Value → H} {W : World} {v : Value} {fuel : Nat} {x : DataW H × List MemPlace}
    (h : DataW.trod enc Tryd.prog W 0 (fun _ => true) true fuel 22 [v] = some x) (hw : ∀ k ∈ x.1.weights Tryd.prog 22, k ≤ 140737488351232) : ∃ xo xn xc xs, v = .slice xo xn xc ∧ Is W xo xn xs ∧ xn ≤ 140737488351232 := by
  rcases open_ints Tryd.underlying22 Tryd.underlying3 (by kernel_rfl) h with ⟨hcs, _⟩ | ⟨a, len, cap, zs, hcs, _, hl, hm, hz, rfl, hcell, _⟩
  · obtain rfl : v = .slice none 0 0 := by simpa using hcs
    exact ⟨none, 0, 0, [], rfl, Is.zero _ _, by omega⟩
  · obtain rfl : v = .slice (some a) len cap := by simpa using hcs
    simp only [if_true] at hz
    refine ⟨_, _, _, zs.take len, rfl, ⟨by simp; omega, Nat.le_trans hl hm, fun j u hu => ?_⟩, ?_⟩
    · have hj : j < len := by
        have := (List.getElem?_eq_some_iff.1 hu).1
        simp at this; omega
      have hc := hcell j (by omega)
      obtain ⟨b, off, spot⟩ := a
      have hspot : spot = none := by simpa [Addr.add] using World.cell?_spot (hcell 0 (by omega))
      subst hspot
      rw [Addr.add_lit] at hc
      refine ⟨b, off, rfl, ?_⟩
      rw [hc]
      have hzj : zs[j]? = some zs[j] := List.getElem?_eq_getElem (by omega)
      simp [List.getElem?_map, hj, hzj, List.getD_eq_getElem?_getD] at hu ⊢
      exact hu
    · simp only [DataW.weights, Tryd.underlying22, List.mem_cons] at hw
      have := hw _ (.inl rfl)
      simp only [lits, List.length_map, List.length_take, List.length_drop, show Tryd.prog.bytesOf 3 = 8 by kernel_rfl] at this
      omega

/-- A slice of lines in a cell. -/
theorem lns_of_cells {H : Type} {enc : TypeId × Value → H} {W : World} {v : Value} {fuel : Nat} {x : DataW H × List MemPlace}
    (h : DataW.trod enc Tryd.prog W 0 (fun _ => true) true fuel 24 [v] = some x) (hw : ∀ k ∈ x.1.weights Tryd.prog 24, k ≤ 140737488351232) : ∃ a0 len cap ls, v = .slice a0 len cap ∧ Lns W a0 len ls := by
  rcases open_slice_pairs Tryd.underlying24 Tryd.underlying53 (by kernel_rfl) rfl rfl (by kernel_rfl) (by kernel_rfl) h with ⟨hcs, _⟩ | ⟨a, len, cap, m, n, V0, V1, D0, D1, P0, P1, hcs, _, hl, hm, hme, hx, hi⟩
  · obtain rfl : v = .slice none 0 0 := by simpa using hcs
    exact ⟨_, _, _, [], rfl, rfl, Nat.zero_le _, fun j hj => absurd hj (by simp)⟩
  · obtain rfl : v = .slice (some a) len cap := by simpa using hcs
    have hml : len ≤ m := by rw [hme]; simp; exact hl
    obtain rfl : x = _ := hx
    simp only [DataW.weights, Tryd.underlying24, List.mem_cons, List.mem_append] at hw
    have hlen : len ≤ 140737488351232 := by
      have := hw _ (.inl rfl)
      simp only [List.length_map, List.length_range, show Tryd.prog.bytesOf 53 = 32 by kernel_rfl] at this
      omega
    have hall : ∀ j, j < len → ∃ q : Ln, ∃ b off xo xn xc, some a = some ⟨b, off, none⟩ ∧ W.cell? ⟨b, off + j * 2, none⟩ = some (iv q.1) ∧ W.cell? ⟨b, off + j * 2 + 1, none⟩ = some (.slice xo xn xc) ∧ Is W xo xn q.2 ∧ xn ≤ 140737488351232 := by
      intro j hj
      obtain ⟨h1, h2, h3, h4⟩ := hi j (by omega)
      obtain ⟨b, off, spot⟩ := a
      have hspot : spot = none := by
        simpa [Addr.add] using World.cell?_spot (hi 0 (by omega)).1
      subst hspot
      rw [Addr.add_lit] at h1 h2
      obtain ⟨xo, xn, xc, xs, hv1, hB, hxn⟩ := is_of_cells h4 (fun k hk => hw k (.inr (.inl (weights_of_mem (d := .agg [D0 j, D1 j]) (List.mem_map.2 ⟨j, List.mem_range.2 hj, rfl⟩) (by
        simp only [DataW.weights, Tryd.underlying53, List.map_cons, List.map_nil, DataW.weightsEach, List.mem_append]
        exact .inr (.inl hk))))))
      obtain ⟨z, hz, _⟩ := DataW.trod_int Tryd.underlying3 h3
      exact ⟨(z, xs), b, off, xo, xn, xc, rfl, by rw [h1]; simpa using hz, by rw [← hv1, ← h2, Nat.add_assoc], hB, hxn⟩
    obtain ⟨f, hf⟩ := choose_lt hall
    refine ⟨_, _, _, (List.range len).map f, rfl, by simp, hlen, fun j hj => ?_⟩
    have hj' : j < len := by simpa using hj
    simpa using hf j hj'

set_option maxRecDepth 100000 in
/-- A pattern among the arguments. -/
theorem pat_of_trod {H : Type} {enc : TypeId × Value → H} {W : World} {v : Value} {d : DataW H} {p : List MemPlace} {r : Reach} {base : Nat} (hv : Value.okWide Tryd.prog W r base 26 v)
    (h : DataW.Trod enc Tryd.prog W 0 (fun _ => true) true 26 v d p) (hw : ∀ k ∈ d.weights Tryd.prog 26, k ≤ 140737488351232) :
    ∃ nm a0 n0 c0 a1 n1 c1 al nl cl b0 b1 ls, v = .agg #[.string nm, .slice a0 n0 c0, .slice a1 n1 c1, .slice al nl cl] ∧ nm.size ≤ maxLen ∧ Is W a0 n0 b0 ∧ Is W a1 n1 b1 ∧ Lns W al nl ls ∧ n0 ≤ 140737488351232 ∧ n1 ≤ 140737488351232 := by
  obtain ⟨cs, hvc, hsz⟩ := okWide_struct (P := Tryd.prog) (w := W) (r := r) (base := base) (t := 26) (v := v) Tryd.underlying26 hv
  subst hvc
  have h26 : Tryd.prog.cellsOf 26 = 4 := by kernel_rfl
  rw [h26] at hsz
  obtain ⟨fuel, hf⟩ := h
  obtain ⟨l⟩ := cs
  simp at hsz
  obtain ⟨v0, v1, v2, v3, rfl⟩ : ∃ v0 v1 v2 v3, l = [v0, v1, v2, v3] := by
    match l, hsz with
    | [v0, v1, v2, v3], _ => exact ⟨_, _, _, _, rfl⟩
  simp only [Value.cells] at hf
  obtain ⟨xs, n, rfl, hx, _, hxl, hi⟩ := DataW.trod_struct Tryd.underlying26 hf
  obtain ⟨x0, x1, x2, rfl⟩ : ∃ x0 x1 x2, xs = [x0, x1, x2] := by
    match xs, hxl with
    | [x0, x1, x2], _ => exact ⟨_, _, _, rfl⟩
  have f0 := hi 0 { name := "Name", type := 9, offset := 0, embedded := false, tag := "", pkgPath := "", byteOffset := 0 } rfl
  have f1 := hi 1 { name := "Before", type := 23, offset := 1, embedded := false, tag := "", pkgPath := "", byteOffset := 16 } rfl
  have f2 := hi 2 { name := "Lines", type := 24, offset := 3, embedded := false, tag := "", pkgPath := "", byteOffset := 64 } rfl
  simp only [show Tryd.prog.cellsOf 9 = 1 by kernel_rfl, show Tryd.prog.cellsOf 23 = 2 by kernel_rfl, show Tryd.prog.cellsOf 24 = 1 by kernel_rfl, List.drop, List.take, List.getElem?_cons_zero, List.getElem?_cons_succ] at f0 f1 f2
  obtain rfl : d = _ := (Prod.mk.inj hx).1
  simp only [DataW.weights, Tryd.underlying26, List.map_cons, List.map_nil, DataW.weightsEach, List.mem_append] at hw
  obtain ⟨s, hs, _, hsm⟩ := DataW.trod_string Tryd.underlying9 f0
  obtain rfl : v0 = .string s := by simpa using hs
  obtain ⟨a0, n0, c0', ls, rfl, hls⟩ := lns_of_cells f2 (fun k hk => hw k (.inr (.inr (.inl hk))))
  obtain ⟨ys, m, rfl, hy, _, hyl, hj⟩ := DataW.trod_array Tryd.underlying23 f1
  obtain ⟨y0, y1, rfl⟩ : ∃ y0 y1, ys = [y0, y1] := by
    match ys, hyl with
    | [y0, y1], _ => exact ⟨_, _, rfl⟩
  have g0 := hj 0 (by decide)
  have g1 := hj 1 (by decide)
  simp only [show Tryd.prog.cellsOf 22 = 1 by kernel_rfl, List.drop, List.getElem?_cons_zero, List.getElem?_cons_succ, Nat.zero_mul, Nat.one_mul] at g0 g1
  obtain rfl : x1 = _ := hy
  simp only [DataW.weights, Tryd.underlying23, List.map_cons, List.map_nil, DataW.weightsAll, List.mem_append] at hw
  obtain ⟨p0, q0, r0, b0, rfl, hb0, hq0⟩ := is_of_cells g0 (fun k hk => hw k (.inr (.inl (.inl hk))))
  obtain ⟨p1, q1, r1, b1, rfl, hb1, hq1⟩ := is_of_cells g1 (fun k hk => hw k (.inr (.inl (.inr (.inl hk)))))
  exact ⟨s, p0, q0, r0, p1, q1, r1, a0, n0, c0', b0, b1, ls, rfl, hsm, hb0, hb1, hls, hq0, hq1⟩
end Go.Proofs.YtpemfmjplejdiaaDoor

namespace Go.Proofs.YtpemfmjplejdiaaDoor
open Go.ChangeShapes Go.WideShapes Go.RowKit

theorem trodAll_stays {H : Type} {enc : TypeId × Value → H} {P : Program} (hl : laidOutB P = true) {W W' : World} (hb : Kp W W') : ∀ {ts : List TypeId} {vs : List Value} {ds : List (DataW H)} {ps : List MemPlace},
    (∀ t ∈ ts, P.readableRec t = true ∧ t < P.types.size) → DataW.TrodAll enc P W 0 (fun _ => true) true ts vs ds ps → (∀ x ∈ ps, x.block < W.heap.size) →
    DataW.TrodAll enc P W' 0 (fun b => decide (b < W.heap.size)) true ts vs ds ps
  | [], [], [], _, _, h, _ => h
  | t :: ts, v :: vs, d :: ds, ps, ht, h, hlt => by
    obtain ⟨p, q, h1, h2, rfl⟩ := h
    have h3 := ht t (by simp)
    exact ⟨p, q, Below.trod hl h3.1 h3.2 h1 hb (fun x hx => hlt x (by simp [hx])), trodAll_stays hl hb (fun t' ht' => ht t' (by simp [ht'])) h2 (fun x hx => hlt x (by simp [hx])), rfl⟩
  | [], [], _ :: _, _, _, h, _ => h.elim
  | [], _ :: _, _, _, _, h, _ => by cases h
  | _ :: _, [], _, _, _, h, _ => by cases h
  | _ :: _, _ :: _, [], _, _, h, _ => by cases h

theorem law_post {H : Type} {enc : TypeId × Value → H} {P : Program} {fn : Func} {s : ChangeSpec} {W W' : World} {args : Array Value} {ds gs : List (DataW H)} {before : List MemPlace} {bt : TypeId}
    (hl : laidOutB P = true) (htb : (fn.params.toList.all fun t => P.readableRec t && decide (t < P.types.size)) = true) (hv : s.vars = []) (hres : fn.resultTypes = #[bt]) (hbt : P.underlying bt = some .bool)
    (hW : DataW.Whole enc P fn.params.toList s.vars false W args.toList ds gs before) (hs : s.fn H (ds ++ []) = { results := [.lit (.bool true)], args := ds }) (hk : Kp W W') :
    s.post enc P fn false true false false W args (.bool true) W' := by
  have hts : ∀ t ∈ fn.params.toList, P.readableRec t = true ∧ t < P.types.size := fun t ht => by
    have := List.all_eq_true.1 htb t ht
    simpa using this
  have hW0 := hW
  obtain ⟨p, q, hA, hV, rfl, hfz, _⟩ := hW
  rw [hv] at hV
  obtain ⟨rfl, rfl⟩ := trodVars_none hV
  have hlt : ∀ x ∈ p, x.block < W.heap.size := hA.lt
  refine ⟨ds, [], p ++ [], [], p, [], hW0, ?_, ?_, ?_, hk.frame _, fun h => by cases h⟩
  · rw [hs, hres]
    exact trodAll_mk1 (shut_bool hbt true)
  · rw [hs]
    exact trodAll_stays hl hk hts hA hlt
  · rw [hs, hv]; rfl

theorem Tryd.own : ownKnob Tryd.prog.godebug = none := by kernel_rfl
theorem Tryd.laidOut : laidOutB Tryd.prog = true := by kernel_rfl
theorem g2 : Tryd.prog.globalNamed "pintle/api.ErrInvalid" = some 2 := by kernel_rfl
theorem g2t : (Tryd.prog.globals[2]?).map (·.type) = some 32 := by kernel_rfl
theorem g3 : Tryd.prog.globalNamed "pintle/api.ErrTwice" = some 3 := by kernel_rfl
theorem g3t : (Tryd.prog.globals[3]?).map (·.type) = some 32 := by kernel_rfl
theorem g4 : Tryd.prog.globalNamed "pintle/api.ErrLacks" = some 4 := by kernel_rfl
theorem g4t : (Tryd.prog.globals[4]?).map (·.type) = some 32 := by kernel_rfl
theorem g5 : Tryd.prog.globalNamed "pintle/api.ErrUnsafe" = some 5 := by kernel_rfl
theorem g5t : (Tryd.prog.globals[5]?).map (·.type) = some 32 := by kernel_rfl
theorem cells125 : Tryd.prog.cellsOf 125 = 1 := by kernel_rfl
theorem cells9 : Tryd.prog.cellsOf 9 = 1 := by kernel_rfl
theorem star : "*" ++ "errors.errorString" = "*errors.errorString" := by decide
theorem row107 (u : TypeId) (h : Tryd.prog.typeName? 3 u = some "*errors.errorString") : u = 107 :=
  typeName_ptr_named (nm := "errors.errorString") (by rw [star]; kernel_rfl) (by kernel_rfl) (by decide) u (by rw [star]; exact h)

/-- WHAT THE ROW's LIST GIVES. -/
theorem errs_of_laid {W : World} (h : laidMetH Tryd.prog [("pintle/api.ErrInvalid", Rows.laid_pintle_api_ErrInvalid), ("pintle/api.ErrTwice", Rows.laid_pintle_api_ErrTwice), ("pintle/api.ErrLacks", Rows.laid_pintle_api_ErrLacks), ("pintle/api.ErrUnsafe", Rows.laid_pintle_api_ErrUnsafe)] W) : ∃ E, Errs W E := by
  rw [MakeChecks.laidMetH_plain _ _ _ (by kernel_rfl)] at h
  obtain ⟨a0, s0, hv0, _, _, _⟩ := laid_sentinel (h) g2 g2t Tryd.underlying32 row107 Tryd.underlying107 Tryd.underlying125 rfl rfl Tryd.underlying9 cells125 cells9
  obtain ⟨a1, s1, hv1, _, _, _⟩ := laid_sentinel (h.tail) g3 g3t Tryd.underlying32 row107 Tryd.underlying107 Tryd.underlying125 rfl rfl Tryd.underlying9 cells125 cells9
  obtain ⟨a2, s2, hv2, _, _, _⟩ := laid_sentinel (h.tail.tail) g4 g4t Tryd.underlying32 row107 Tryd.underlying107 Tryd.underlying125 rfl rfl Tryd.underlying9 cells125 cells9
  obtain ⟨a3, s3, hv3, _, _, _⟩ := laid_sentinel (h.tail.tail.tail) g5 g5t Tryd.underlying32 row107 Tryd.underlying107 Tryd.underlying125 rfl rfl Tryd.underlying9 cells125 cells9
  exact ⟨fun i => if i = 9 then a0 else if i = 10 then a1 else if i = 11 then a2 else a3, show W.cell? ⟨2, 0, none⟩ = _ by simpa using World.var?_cell g2 hv0 0, show W.cell? ⟨3, 0, none⟩ = _ by simpa using World.var?_cell g3 hv1 0, show W.cell? ⟨4, 0, none⟩ = _ by simpa using World.var?_cell g4 hv2 0, show W.cell? ⟨5, 0, none⟩ = _ by simpa using World.var?_cell g5 hv3 0⟩
#print axioms errs_of_laid
end Go.Proofs.YtpemfmjplejdiaaDoor

namespace Go.Proofs.YtpemfmjplejdiaaDoor
open Go.ChangeShapes Go.WideShapes Go.RowKit

/-- The errors, by their numbers; each lies in a block of its own kind, no two in one place. -/
structure ErrsX (w : World) (E : Nat → Addr) : Prop where
  errs : Errs w E
  c0 : w.cell? ⟨0, 0, none⟩ = some (.iface 107 (.pointer (some (E 1))))
  c1 : w.cell? ⟨1, 0, none⟩ = some (.iface 107 (.pointer (some (E 3))))
  b1 : ∃ cs t, w.heap[(E 1).block]? = some (.cells cs t (0, 0))
  b3 : ∃ cs t, w.heap[(E 3).block]? = some (.cells cs t (0, 0))
  b9 : ∃ cs t, w.heap[(E 9).block]? = some (.cells cs t (0, 0))
  b10 : ∃ cs t, w.heap[(E 10).block]? = some (.cells cs t (0, 0))
  b11 : ∃ cs t, w.heap[(E 11).block]? = some (.cells cs t (0, 0))
  b12 : ∃ cs t, w.heap[(E 12).block]? = some (.cells cs t (0, 0))
  n1_3 : E 3 ≠ E 1
  n1_9 : E 9 ≠ E 1
  n1_10 : E 10 ≠ E 1
  n1_11 : E 11 ≠ E 1
  n1_12 : E 12 ≠ E 1
  n3_9 : E 9 ≠ E 3
  n3_10 : E 10 ≠ E 3
  n3_11 : E 11 ≠ E 3
  n3_12 : E 12 ≠ E 3
  n9_10 : E 10 ≠ E 9
  n9_11 : E 11 ≠ E 9
  n9_12 : E 12 ≠ E 9
  n10_11 : E 11 ≠ E 10
  n10_12 : E 12 ≠ E 10
  n11_12 : E 12 ≠ E 11
theorem blk_keep {w w' : World} (h : Kp w w') {b : Nat} (hb : ∃ cs t, w.heap[b]? = some (.cells cs t (0, 0))) : ∃ cs t, w'.heap[b]? = some (.cells cs t (0, 0)) := by
  obtain ⟨cs, t, e⟩ := hb
  exact ⟨cs, t, by rw [h.block b (Array.getElem?_eq_some_iff.1 e).1]; exact e⟩
theorem ErrsX.keep {w w' : World} {E : Nat → Addr} (h : ErrsX w E) (k : Kp w w') : ErrsX w' E :=
  ⟨k.errs h.errs, k.cell h.c0, k.cell h.c1, blk_keep k h.b1, blk_keep k h.b3, blk_keep k h.b9, blk_keep k h.b10, blk_keep k h.b11, blk_keep k h.b12, h.n1_3, h.n1_9, h.n1_10, h.n1_11, h.n1_12, h.n3_9, h.n3_10, h.n3_11, h.n3_12, h.n9_10, h.n9_11, h.n9_12, h.n10_11, h.n10_12, h.n11_12⟩
theorem eq_same (w : World) (a : Addr) : (binOp .eql 32 (.iface 107 (.pointer (some a))) (.iface 107 (.pointer (some a)))).run Tryd.prog w = .ok (.bool true) w := by
  obtain ⟨i, hi, hc⟩ := Option.map_eq_some_iff.1 (show (Tryd.prog.info? 107).map (·.comparable) = some true by kernel_rfl)
  obtain ⟨j, hj, _⟩ := Option.map_eq_some_iff.1 (show (Tryd.prog.info? 125).map (·.size) = some 1 by kernel_rfl)
  exact run_eql_iface_ptr_same w a Tryd.underlying32 Tryd.underlying107 hi hc hj
theorem eq_other (w : World) {a b : Addr} (hne : a ≠ b) (ha : ∃ cs t, w.heap[a.block]? = some (.cells cs t (0, 0))) (hb : ∃ cs t, w.heap[b.block]? = some (.cells cs t (0, 0))) : (binOp .eql 32 (.iface 107 (.pointer (some a))) (.iface 107 (.pointer (some b)))).run Tryd.prog w = .ok (.bool false) w := by
  obtain ⟨i, hi, hc⟩ := Option.map_eq_some_iff.1 (show (Tryd.prog.info? 107).map (·.comparable) = some true by kernel_rfl)
  obtain ⟨j, hj, hs⟩ := Option.map_eq_some_iff.1 (show (Tryd.prog.info? 125).map (·.size) = some 1 by kernel_rfl)
  obtain ⟨ca, ta, ea⟩ := ha
  obtain ⟨cb, tb, eb⟩ := hb
  exact run_eql_iface_ptr_other w Tryd.underlying32 Tryd.underlying107 hi hc hj (by rw [hs]; decide) hne ea eb

set_option maxHeartbeats 2000000 in
theorem code_0 (w : World) (E : Nat → Addr) (_h : ErrsX w E) : Calls Tryd.prog 14 #[errV E 0] w fun e w' => e = .returned (iv 0) ∧ w' = w := by
  unfold errV
  rw [if_pos rfl]
  go_enter Tryd.func14, Tryd.ntmps14
  go_wp2_with fail
  go_ret
  exact ⟨rfl, rfl⟩

set_option maxHeartbeats 2000000 in
theorem code_9 (w : World) (E : Nat → Addr) (h : ErrsX w E) : Calls Tryd.prog 14 #[errV E 9] w fun e w' => e = .returned (iv 9) ∧ w' = w := by
  unfold errV
  rw [if_neg (by decide)]
  have e1 := eq_other w h.n1_9 h.b9 h.b1
  have e3 := eq_other w h.n3_9 h.b9 h.b3
  have e9 := eq_same w (E 9)
  have c0 := h.c0
  have c1 := h.c1
  obtain ⟨c2, c3, c4, c5⟩ := h.errs
  clear c3 c4 c5
  clear h
  go_enter Tryd.func14, Tryd.ntmps14
  go_wp2_with fail
  go_ret
  exact ⟨rfl, rfl⟩

set_option maxHeartbeats 2000000 in
theorem code_10 (w : World) (E : Nat → Addr) (h : ErrsX w E) : Calls Tryd.prog 14 #[errV E 10] w fun e w' => e = .returned (iv 10) ∧ w' = w := by
  unfold errV
  rw [if_neg (by decide)]
  have e1 := eq_other w h.n1_10 h.b10 h.b1
  have e3 := eq_other w h.n3_10 h.b10 h.b3
  have e9 := eq_other w h.n9_10 h.b10 h.b9
  have e10 := eq_same w (E 10)
  have c0 := h.c0
  have c1 := h.c1
  obtain ⟨c2, c3, c4, c5⟩ := h.errs
  clear c4 c5
  clear h
  go_enter Tryd.func14, Tryd.ntmps14
  go_wp2_with fail
  go_ret
  exact ⟨rfl, rfl⟩

set_option maxHeartbeats 2000000 in
theorem code_11 (w : World) (E : Nat → Addr) (h : ErrsX w E) : Calls Tryd.prog 14 #[errV E 11] w fun e w' => e = .returned (iv 11) ∧ w' = w := by
  unfold errV
  rw [if_neg (by decide)]
  have e1 := eq_other w h.n1_11 h.b11 h.b1
  have e3 := eq_other w h.n3_11 h.b11 h.b3
  have e9 := eq_other w h.n9_11 h.b11 h.b9
  have e10 := eq_other w h.n10_11 h.b11 h.b10
  have e11 := eq_same w (E 11)
  have c0 := h.c0
  have c1 := h.c1
  obtain ⟨c2, c3, c4, c5⟩ := h.errs
  clear c5
  clear h
  go_enter Tryd.func14, Tryd.ntmps14
  go_wp2_with fail
  go_ret
  exact ⟨rfl, rfl⟩

set_option maxHeartbeats 2000000 in
theorem code_12 (w : World) (E : Nat → Addr) (h : ErrsX w E) : Calls Tryd.prog 14 #[errV E 12] w fun e w' => e = .returned (iv 12) ∧ w' = w := by
  unfold errV
  rw [if_neg (by decide)]
  have e1 := eq_other w h.n1_12 h.b12 h.b1
  have e3 := eq_other w h.n3_12 h.b12 h.b3
  have e9 := eq_other w h.n9_12 h.b12 h.b9
  have e10 := eq_other w h.n10_12 h.b12 h.b10
  have e11 := eq_other w h.n11_12 h.b12 h.b11
  have e12 := eq_same w (E 12)
  have c0 := h.c0
  have c1 := h.c1
  obtain ⟨c2, c3, c4, c5⟩ := h.errs
  clear h
  go_enter Tryd.func14, Tryd.ntmps14
  go_wp2_with fail
  go_ret
  exact ⟨rfl, rfl⟩
theorem code_any (w : World) (E : Nat → Addr) (h : ErrsX w E) (c : Nat) (hc : c = 0 ∨ c = 9 ∨ c = 10 ∨ c = 11 ∨ c = 12) : Calls Tryd.prog 14 #[errV E c] w fun e w' => e = .returned (iv (c : Nat)) ∧ w' = w := by
  rcases hc with rfl | rfl | rfl | rfl | rfl
  · exact code_0 w E h
  · exact code_9 w E h
  · exact code_10 w E h
  · exact code_11 w E h
  · exact code_12 w E h

theorem g0 : Tryd.prog.globalNamed "pintle/api.ErrArg" = some 0 := by kernel_rfl
theorem g0t : (Tryd.prog.globals[0]?).map (·.type) = some 32 := by kernel_rfl
theorem g1 : Tryd.prog.globalNamed "pintle/api.ErrLong" = some 1 := by kernel_rfl
theorem g1t : (Tryd.prog.globals[1]?).map (·.type) = some 32 := by kernel_rfl
theorem text_ne {w : World} {a b : Addr} {s t : ByteArray} {x y : List UInt8} (ha : w.cell? a = some (.string s)) (hb : w.cell? b = some (.string t)) (hs : s.data.toList = x) (ht : t.data.toList = y) (hxy : x ≠ y) : a ≠ b := by
  rintro rfl
  rw [ha] at hb
  simp only [Option.some.injEq, Value.string.injEq] at hb
  subst hb
  exact hxy (hs.symm.trans ht)

/-- What the eight variables of a row give. -/
theorem errsX_of_laid {W : World} (h : laidMetH Tryd.prog [("pintle/api.ErrArg", Rows.laid_pintle_api_ErrArg), ("pintle/api.ErrLong", Rows.laid_pintle_api_ErrLong), ("pintle/api.ErrText", Rows.laid_pintle_api_ErrText), ("pintle/api.ErrInvalid", Rows.laid_pintle_api_ErrInvalid), ("pintle/api.ErrTwice", Rows.laid_pintle_api_ErrTwice), ("pintle/api.ErrLacks", Rows.laid_pintle_api_ErrLacks), ("pintle/api.ErrUnsafe", Rows.laid_pintle_api_ErrUnsafe), ("pintle/api.ErrName", Rows.laid_pintle_api_ErrName)] W) : ∃ E, ErrsX W E := by
  rw [MakeChecks.laidMetH_plain _ _ _ (by kernel_rfl)] at h
  obtain ⟨a1, a3, s1, s3, u1, u3, v1, v3, hv1, hv3, hc1, hs1, _, hc3, hs3, _, _, hb1, hb3⟩ := laid_sentinels2 h g0 g0t g1 g1t Tryd.underlying32 row107 Tryd.underlying107 Tryd.underlying125 rfl rfl Tryd.underlying9 cells125 cells9
  obtain ⟨a9, a10, s9, s10, u9, u10, v9, v10, hv9, hv10, hc9, hs9, _, hc10, hs10, _, _, hb9, hb10⟩ := laid_sentinels2 (h.tail.tail.tail) g2 g2t g3 g3t Tryd.underlying32 row107 Tryd.underlying107 Tryd.underlying125 rfl rfl Tryd.underlying9 cells125 cells9
  obtain ⟨a11, a12, s11, s12, u11, u12, v11, v12, hv11, hv12, hc11, hs11, _, hc12, hs12, _, _, hb11, hb12⟩ := laid_sentinels2 (h.tail.tail.tail.tail.tail) g4 g4t g5 g5t Tryd.underlying32 row107 Tryd.underlying107 Tryd.underlying125 rfl rfl Tryd.underlying9 cells125 cells9
  refine ⟨fun i => if i = 1 then a1 else if i = 3 then a3 else if i = 9 then a9 else if i = 10 then a10 else if i = 11 then a11 else a12, ⟨?_, ?_, ?_, ?_⟩, ?_, ?_, ⟨u1, v1, by simpa using hb1⟩, ⟨u3, v3, by simpa using hb3⟩, ⟨u9, v9, by simpa using hb9⟩, ⟨u10, v10, by simpa using hb10⟩, ⟨u11, v11, by simpa using hb11⟩, ⟨u12, v12, by simpa using hb12⟩, by simpa using text_ne hc3 hc1 hs3 hs1 (by decide), by simpa using text_ne hc9 hc1 hs9 hs1 (by decide), by simpa using text_ne hc10 hc1 hs10 hs1 (by decide), by simpa using text_ne hc11 hc1 hs11 hs1 (by decide), by simpa using text_ne hc12 hc1 hs12 hs1 (by decide), by simpa using text_ne hc9 hc3 hs9 hs3 (by decide), by simpa using text_ne hc10 hc3 hs10 hs3 (by decide), by simpa using text_ne hc11 hc3 hs11 hs3 (by decide), by simpa using text_ne hc12 hc3 hs12 hs3 (by decide), by simpa using text_ne hc10 hc9 hs10 hs9 (by decide), by simpa using text_ne hc11 hc9 hs11 hs9 (by decide), by simpa using text_ne hc12 hc9 hs12 hs9 (by decide), by simpa using text_ne hc11 hc10 hs11 hs10 (by decide), by simpa using text_ne hc12 hc10 hs12 hs10 (by decide), by simpa using text_ne hc12 hc11 hs12 hs11 (by decide)⟩
  · show W.cell? ⟨2, 0, none⟩ = _; simpa using World.var?_cell g2 hv9 0
  · show W.cell? ⟨3, 0, none⟩ = _; simpa using World.var?_cell g3 hv10 0
  · show W.cell? ⟨4, 0, none⟩ = _; simpa using World.var?_cell g4 hv11 0
  · show W.cell? ⟨5, 0, none⟩ = _; simpa using World.var?_cell g5 hv12 0
  · show W.cell? ⟨0, 0, none⟩ = _; simpa using World.var?_cell g0 hv1 0
  · show W.cell? ⟨1, 0, none⟩ = _; simpa using World.var?_cell g1 hv3 0
end Go.Proofs.YtpemfmjplejdiaaDoor

namespace Go.Proofs.YtpemfmjplejdiaaDoor
open Go.ChangeShapes Go.WideShapes Go.RowKit

/-- The errors' texts, by the variables' numbers. -/
noncomputable def errTexts : List ByteArray := [⟨#[112, 105, 110, 116, 108, 101, 58, 32, 97, 114, 103, 117, 109, 101, 110, 116]⟩, ⟨#[112, 105, 110, 116, 108, 101, 58, 32, 116, 111, 111, 32, 108, 111, 110, 103]⟩, ⟨#[112, 105, 110, 116, 108, 101, 58, 32, 112, 97, 116, 116, 101, 114, 110, 32, 105, 110, 118, 97, 108, 105, 100]⟩, ⟨#[112, 105, 110, 116, 108, 101, 58, 32, 116, 119, 105, 99, 101]⟩, ⟨#[112, 105, 110, 116, 108, 101, 58, 32, 108, 97, 99, 107, 115]⟩, ⟨#[112, 105, 110, 116, 108, 101, 58, 32, 117, 110, 115, 97, 102, 101]⟩, ⟨#[112, 105, 110, 116, 108, 101, 58, 32, 110, 111, 32, 112, 114, 111, 116, 111, 99, 111, 108]⟩, ⟨#[112, 105, 110, 116, 108, 101, 58, 32, 110, 111, 32, 112, 97, 116, 116, 101, 114, 110]⟩]
noncomputable def errCells : Array Obj := (errTexts.map fun t => Obj.cells #[.string t] 125).toArray
noncomputable def layAt (h : Array Obj) (g : Nat) : Array Obj := h.modify g fun
      | .cells _ t frozen => .cells #[.iface 107 (.pointer (some ⟨(World.holding Tryd.prog default ⟨#[], #[], []⟩).heap.size + g, 0, none⟩))] t frozen
      | o => o
noncomputable def laidWorld (os : Os) : World :=
  { World.holding Tryd.prog os ⟨errCells, #[], []⟩ with heap := [0, 1, 2, 3, 4, 5, 6, 7].foldl layAt (World.holding Tryd.prog os ⟨errCells, #[], []⟩).heap }
end Go.Proofs.YtpemfmjplejdiaaDoor

namespace Go.Proofs.YtpemfmjplejdiaaDoor
open Go.ChangeShapes Go.WideShapes Go.RowKit Go.Deep

instance : Inhabited Mv := ⟨⟨0, 0, 0⟩⟩
set_option maxRecDepth 100000 in
theorem mvs_of_trod {H : Type} {enc : TypeId × Value → H} {W : World} {v : Value} {d : DataW H} {p : List MemPlace} {r : Reach} {base : Nat} (hv : Value.okWide Tryd.prog W r base 30 v)
    (h : DataW.Trod enc Tryd.prog W 0 (fun _ => true) true 30 v d p) : ∃ ao n cap ms, v = .slice ao n cap ∧ Mvs W ao n ms ∧ ∀ m ∈ ms, -9223372036854775808 ≤ m.wth ∧ m.wth ≤ 9223372036854775807 := by
  obtain ⟨ao, n, cap, rfl⟩ := okWide_slice (P := Tryd.prog) (w := W) (r := r) (base := base) (t := 30) (v := v) Tryd.underlying30 hv
  obtain ⟨fuel, hf⟩ := h
  simp only [Value.cells] at hf
  rcases open_slice Tryd.underlying30 hf with ⟨hcs, _⟩ | ⟨a, len, cap', m, k, D, Pl, hcs, hb, hl, hm, hmm, hx, hi⟩
  · simp at hcs
    obtain ⟨rfl, rfl, rfl⟩ := hcs
    exact ⟨_, _, _, [], rfl, ⟨rfl, Nat.zero_le _, fun j u hu => by simp at hu⟩, fun m hm => by cases hm⟩
  · simp at hcs
    obtain ⟨rfl, rfl, rfl⟩ := hcs
    have hml : n ≤ m := by rw [hmm]; simp; exact hl
    have c42 : Tryd.prog.cellsOf 42 = 3 := by kernel_rfl
    have hall : ∀ j, j < n → ∃ q : Mv, ∃ b off, some a = some ⟨b, off, none⟩ ∧ W.cell? ⟨b, off + j * 3, none⟩ = some (iv q.op) ∧ W.cell? ⟨b, off + j * 3 + 1, none⟩ = some (iv q.key) ∧ W.cell? ⟨b, off + j * 3 + 2, none⟩ = some (iv q.wth) ∧ (-9223372036854775808 ≤ q.wth ∧ q.wth ≤ 9223372036854775807) := by
      intro j hj
      obtain ⟨cs', h1, h2⟩ := hi j (by omega)
      rw [c42] at h1
      obtain ⟨_, hlen, hcell⟩ := World.cells?_some h1
      obtain ⟨v0, v1, v2, rfl⟩ : ∃ v0 v1 v2, cs' = [v0, v1, v2] := by
        match cs', hlen with
        | [v0, v1, v2], _ => exact ⟨_, _, _, rfl⟩
      obtain ⟨xs, n', _, _, _, hxl, hfi⟩ := DataW.trod_struct Tryd.underlying42 h2
      have e0 := hcell 0 (by omega)
      have e1 := hcell 1 (by omega)
      have e2 := hcell 2 (by omega)
      obtain ⟨cs0, h10, _⟩ := hi 0 (by omega)
      rw [c42] at h10
      have e00 := (World.cells?_some h10).2.2 0 (by have := (World.cells?_some h10).2.1; omega)
      rw [List.getElem?_eq_getElem (by have := (World.cells?_some h10).2.1; omega)] at e00
      obtain ⟨b, off, spot⟩ := a
      have hspot : spot = none := by simpa [Addr.add] using World.cell?_spot e00
      subst hspot
      simp only [Addr.add_lit, Nat.add_zero, List.getElem?_cons_zero, List.getElem?_cons_succ] at e0 e1 e2
      obtain ⟨x0, x1, x2, rfl⟩ : ∃ x0 x1 x2, xs = [x0, x1, x2] := by
        match xs, hxl with
        | [x0, x1, x2], _ => exact ⟨_, _, _, rfl⟩
      have f0 := hfi 0 { name := "Op", type := 3, offset := 0, embedded := false, tag := "", pkgPath := "", byteOffset := 0 } rfl
      have f1 := hfi 1 { name := "Key", type := 3, offset := 1, embedded := false, tag := "", pkgPath := "", byteOffset := 8 } rfl
      have f2 := hfi 2 { name := "With", type := 3, offset := 2, embedded := false, tag := "", pkgPath := "", byteOffset := 16 } rfl
      simp only [show Tryd.prog.cellsOf 3 = 1 by kernel_rfl, List.drop, List.take, List.getElem?_cons_zero, List.getElem?_cons_succ] at f0 f1 f2
      obtain ⟨z0, hz0, _⟩ := DataW.trod_int Tryd.underlying3 f0
      obtain ⟨z1, hz1, _⟩ := DataW.trod_int Tryd.underlying3 f1
      obtain ⟨z2, hz2, _, hw2⟩ := DataW.trod_int Tryd.underlying3 f2
      simp at hz0 hz1 hz2
      subst hz0 hz1 hz2
      refine ⟨⟨z0, z1, z2⟩, b, off, rfl, e0, e1, e2, ?_⟩
      simp only [Lit.wf, Bool.and_eq_true, decide_eq_true_eq] at hw2
      exact hw2
    obtain ⟨f, hf⟩ := choose_lt hall
    refine ⟨_, _, _, (List.range n).map f, rfl, ⟨by simp, Nat.le_trans hl hm, fun j u hu => ?_⟩, fun m hm => ?_⟩
    · have hj3 : j < n * 3 := by
        have := (List.getElem?_eq_some_iff.1 hu).1
        rw [mvc_length] at this
        simpa using this
      have hj : j / 3 < n := by omega
      have hjl : j / 3 < ((List.range n).map f).length := by simpa using hj
      obtain ⟨b, off, ha, q0, q1, q2, _⟩ := hf (j / 3) hj
      obtain ⟨g0, g1, g2⟩ := mvc_get ((List.range n).map f) (j / 3) hjl
      simp only [List.getElem_map, List.getElem_range] at g0 g1 g2
      refine ⟨b, off, ha, ?_⟩
      generalize hi3 : j / 3 = i at *
      rcases (show j = i * 3 ∨ j = i * 3 + 1 ∨ j = i * 3 + 2 by omega) with rfl | rfl | rfl
      · rw [g0] at hu
        rw [q0, hu]
      · rw [g1] at hu
        rw [← Nat.add_assoc, q1, hu]
      · rw [g2] at hu
        rw [← Nat.add_assoc, q2, hu]
    · obtain ⟨i, hi', rfl⟩ := List.mem_map.1 hm
      obtain ⟨_, _, _, _, _, _, hw⟩ := hf i (List.mem_range.1 hi')
      exact hw
end Go.Proofs.YtpemfmjplejdiaaDoor

namespace Go.Proofs.YtpemfmjplejdiaaDoor
open Go.RowKit

set_option maxHeartbeats 2000000 in
theorem ahead_any (w : World) (ao : Option Addr) (n c : Nat) (xs : List Int) (hx : Is w ao n xs) : Calls Tryd.prog 53 #[.slice ao n c] w fun e w' => e = .returned (.bool (okB xs)) ∧ Kp w w' := by
  have hl := hx.1
  have hm := hx.2.1
  unfold maxLen at hm
  match xs, hx, hl with
  | [], hx, hl =>
    obtain rfl : n = 0 := by simpa using hl.symm
    go_enter Tryd.func53, Tryd.ntmps53
    go_wp2_with fail
    go_ret
    exact ⟨rfl, Kp.refl _⟩
  | [x], hx, hl =>
    obtain rfl : n = 1 := by simpa using hl.symm
    obtain ⟨b, off, rfl, _, hc⟩ := hx.at 0 (by omega)
    have c0 := hc 0 (by omega)
    rw [Nat.add_zero] at c0
    replace c0 : w.cell? ⟨b, off, none⟩ = some (iv x) := c0
    have Ho := Lib.hid (show okB [x] = (x == 1 || x == 2) from rfl)
    clear hc hx hl
    go_enter Tryd.func53, Tryd.ntmps53
    go_wp2_with fail
    all_goals
      go_ret
      refine ⟨?_, Kp.refl _⟩
      rw [Ho.out]
      simp_all
  | [x, y], hx, hl =>
    obtain rfl : n = 2 := by simpa using hl.symm
    obtain ⟨b, off, rfl, _, hc⟩ := hx.at 0 (by omega)
    have c0 := hc 0 (by omega)
    have c1 := hc 1 (by omega)
    rw [Nat.add_zero] at c0
    replace c0 : w.cell? ⟨b, off, none⟩ = some (iv x) := c0
    replace c1 : w.cell? ⟨b, off + 1, none⟩ = some (iv y) := c1
    have Ho := Lib.hid (show okB [x, y] = (x == 1 && y == 2) from rfl)
    clear hc hx hl
    go_enter Tryd.func53, Tryd.ntmps53
    go_wp2_with fail
    all_goals
      go_ret
      refine ⟨?_, Kp.refl _⟩
      rw [Ho.out]
      simp_all
  | x :: y :: z :: r, hx, hl =>
    have Ho := Lib.hid (show okB (x :: y :: z :: r) = false from rfl)
    have h3 : 3 ≤ n := by rw [← hl]; simp
    clear hx hl
    have q0 : ((n : Int) == 0) = false := by simp; omega
    have q1 : ((n : Int) == 1) = false := by simp; omega
    have q2 : ((n : Int) == 2) = false := by simp; omega
    go_enter Tryd.func53, Tryd.ntmps53
    go_wp2_with fail
    go_ret
    exact ⟨by rw [Ho.out]; rfl, Kp.refl _⟩

set_option maxRecDepth 100000 in
set_option maxHeartbeats 4000000 in
theorem shapedR_any (w : World) (nm : ByteArray) (a0 a1 al : Option Addr) (n0 c0 n1 c1 nl cl : Nat) (b0 b1 : List Int) (ls : List Ln) (h0 : Is w a0 n0 b0) (h1 : Is w a1 n1 b1) (hl : Lns w al nl ls) :
    Calls Tryd.prog 42 #[.agg #[.string nm, .slice a0 n0 c0, .slice a1 n1 c1, .slice al nl cl]] w fun e w' => e = .returned (.bool (shapedL b0 b1 ls)) ∧ Kp w w' := by
  have hnl := hl.2.1
  have Hll := Lib.hid hl.1
  have hnew : ∀ j v, [Value.string nm, .slice a0 n0 c0, .slice a1 n1 c1, .slice al nl cl][j]? = some v → (w.alloc (.cells #[.string nm, .slice a0 n0 c0, .slice a1 n1 c1, .slice al nl cl] 26)).cell? ⟨w.heap.size, j, none⟩ = some v := by
    intro j v hv
    rw [World.cell?_alloc_at _ _ _ _ rfl]
    simpa using hv
  have Hnew := Lib.hid hnew; clear hnew
  go_enter Tryd.func42, Tryd.ntmps42
  go_wp2_with fail
  (with_reducible refine (ahead_any _ a0 n0 c0 b0 (Kp.is (Kp.new _ _) h0)).mono ?_)
  rintro e w1 ⟨rfl, hk1⟩
  cases hb0 : okB b0 with
  | false =>
    have Hfin := Lib.hid (show shapedL b0 b1 ls = false by simp [shapedL, hb0])
    have hkw := Kp.trans (Kp.new _ _) hk1
    clear hb0
    go_wp2_with fail
    go_ret
    exact ⟨by rw [Hfin.out]; rfl, hkw⟩
  | true =>
    have y0 := Kp.cell hk1 (Hnew.out 0 _ rfl)
    have y1 := Kp.cell hk1 (Hnew.out 1 _ rfl)
    have y2 := Kp.cell hk1 (Hnew.out 2 _ rfl)
    have y3 := Kp.cell hk1 (Hnew.out 3 _ rfl)
    have hkw := Kp.trans (Kp.new _ _) hk1
    have Hb0 := Lib.hid hb0; clear hb0
    go_wp2_with fail
    (with_reducible refine (ahead_any _ a1 n1 c1 b1 (Kp.is hkw h1)).mono ?_)
    rintro e w2 ⟨rfl, hk2⟩
    have y0 := Kp.cell hk2 y0
    have y1 := Kp.cell hk2 y1
    have y2 := Kp.cell hk2 y2
    have y3 := Kp.cell hk2 y3
    have hkw2 := Kp.trans hkw hk2
    cases hb1 : okB b1 with
    | false =>
      have Hfin := Lib.hid (show shapedL b0 b1 ls = false by simp [shapedL, hb1])
      clear hb1
      go_wp2_with fail
      go_ret
      exact ⟨by rw [Hfin.out]; rfl, hkw2⟩
    | true =>
      by_cases hz : nl = 0
      · have Hfin := Lib.hid (show shapedL b0 b1 ls = false by simp [shapedL, Hll.out, hz])
        clear hb1
        subst hz
        go_wp2_with fail
        go_ret
        exact ⟨by rw [Hfin.out]; rfl, hkw2⟩
      · have hq : ((nl : Int) == 0) = false := by simp; omega
        have Hfin := Lib.hid (show shapedL b0 b1 ls = linesOk none 0 ls by simp [shapedL, Hll.out, hz, hb1, Hb0.out])
        clear hb1
        go_wp2_with fail
        go_loopw [3, 4] (fun t i wr => ∃ k n : Nat, k ≤ nl ∧ n ≤ 24 ∧ i = .int .i64 k ∧ t = .int .i64 n ∧ Kp w2 wr ∧ linesOk none 0 ls = linesOk (prevAt ls k) n (ls.drop k)) (fun _ i _ => nl - (intOf i).toNat)
        case atStart => exact ⟨0, 0, by omega, by omega, rfl, rfl, Kp.refl _, by simp [prevAt]⟩
        case round =>
          obtain ⟨k, n, hk, hn, rfl, rfl, hkk, hline⟩ := hrel
          have Hline := Lib.hid hline; clear hline
          have y3w := Kp.cell hkk y3
          by_cases hlt : k < nl
          · have hkl : k < ls.length := by rw [Hll.out]; exact hlt
            have hl2 := Kp.lns (Kp.trans hkw2 hkk) hl
            obtain ⟨b, off, tp, tn, tc, rfl, hc1, hc2, hI, htn⟩ := hl2.2.2 k hkl
            obtain ⟨f, ts, hft⟩ : ∃ f ts, ls[k] = (f, ts) := ⟨_, _, rfl⟩
            have hat := linesOk_at ls k n hkl
            rw [hft] at hc1 hI hat
            have hI : Is wr tp tn ts := hI
            have hc1 : wr.cell? ⟨b, off + k * 2, none⟩ = some (iv f) := hc1
            have htl : ts.length = tn := hI.1
            have y3' := fun o => Kp.cell (Kp.new wr o) (Kp.cell hkk y3)
            have hpr : 0 < k → ∃ g, prevAt ls k = some g ∧ ∀ o, (wr.alloc o).cell? ⟨b, off + (k - 1) * 2, none⟩ = some (iv g) := by
              intro h0
              obtain ⟨b', off', _, _, _, e, hp1, _⟩ := hl2.2.2 (k - 1) (by omega)
              simp only [Option.some.injEq, Addr.mk.injEq, and_true] at e
              obtain ⟨rfl, rfl⟩ := e
              refine ⟨ls[k - 1].1, ?_, fun o => Kp.cell (Kp.new wr o) hp1⟩
              unfold prevAt
              rw [if_neg (by omega), List.getElem?_eq_getElem (by omega)]; rfl
            have Hpr := Lib.hid hpr
            have Hat := Lib.hid hat
            have Htl := Lib.hid htl
            have Hft := Lib.hid hft
            clear hpr hat htl hft
            have HI := Lib.hid hI; clear hI
            go_upto_region 8 with fail
            go_cut [66] (fun v wc => v = .bool (!headOk (prevAt ls k) (f, ts)) ∧ ∃ q, wc = (wr.alloc (.cells #[iv f, .slice tp tn tc] 53)).drewN q)
            case first =>
              have q1 : IntKind.i64.wrap ((k : Int) - 1) = (k : Int) - 1 := IntWalk.i64_in _ (by omega)
              by_cases hf : f = 0 ∨ f = 1
              · have hfx : ((f != 0) && (f != 1)) = false := by rcases hf with rfl | rfl <;> rfl
                by_cases hk0 : k = 0
                · have hkd : decide (0 < k) = false := by simp [hk0]
                  by_cases ht0 : tn = 0
                  · skip
                    have HH := Lib.hid (show headOk (prevAt ls k) (f, ts) = false by simp [headOk, Htl.out, ht0])
                    subst ht0
                    subst hk0
                    rcases hf with rfl | rfl
                    all_goals
                      go_quiet (fail)
                      go_wp2_with fail
                      go_meet
                      case rel => exact ⟨by rw [HH.out]; rfl, _, rfl⟩
                  · skip
                    have htz : ((tn : Int) == 0) = false := by simp; omega
                    have HH := Lib.hid (show headOk (prevAt ls k) (f, ts) = true by rcases hf with rfl | rfl <;> simp [headOk, prevAt, hk0, Htl.out, ht0])
                    subst hk0
                    rcases hf with rfl | rfl
                    all_goals
                      go_quiet (fail)
                      go_wp2_with fail
                      go_meet
                      case rel => exact ⟨by rw [HH.out]; rfl, _, rfl⟩
                · have hkd : decide (0 < k) = true := by simp; omega
                  obtain ⟨g, hg1, hg2⟩ := Hpr.out (by omega)
                  have q2 : ((k : Int) - 1).toNat = k - 1 := by omega
                  have q3 : 0 ≤ (k : Int) - 1 := by omega
                  have q4 : (k : Int) - 1 < (nl : Int) := by omega
                  by_cases hfg : f = g
                  · skip
                    have HH := Lib.hid (show headOk (prevAt ls k) (f, ts) = false by simp [headOk, hg1, hfg])
                    subst hfg
                    rcases hf with rfl | rfl
                    all_goals
                      go_quiet (fail)
                      go_wp2_with fail
                      go_meet
                      case rel => exact ⟨by rw [HH.out]; rfl, _, rfl⟩
                  · by_cases ht0 : tn = 0
                    · skip
                      have hne : (f == g) = false := by simpa using hfg
                      have HH := Lib.hid (show headOk (prevAt ls k) (f, ts) = false by simp [headOk, Htl.out, ht0])
                      subst ht0
                      rcases hf with rfl | rfl
                      all_goals
                        go_quiet (fail)
                        go_wp2_with fail
                        go_meet
                        case rel => exact ⟨by rw [HH.out]; rfl, _, rfl⟩
                    · skip
                      have hne : (f == g) = false := by simpa using hfg
                      have htz : ((tn : Int) == 0) = false := by simp; omega
                      have HH := Lib.hid (show headOk (prevAt ls k) (f, ts) = true by rcases hf with rfl | rfl <;> simp [headOk, hg1, Htl.out, ht0, Ne.symm hfg])
                      rcases hf with rfl | rfl
                      all_goals
                        go_quiet (fail)
                        go_wp2_with fail
                        go_meet
                        case rel => exact ⟨by rw [HH.out]; rfl, _, rfl⟩
              · skip
                have hfa : (f != 0) = true := by simp; omega
                have hfb : (f != 1) = true := by simp; omega
                have HH := Lib.hid (show headOk (prevAt ls k) (f, ts) = false by simp [headOk]; omega)
                all_goals
                  go_quiet (fail)
                  go_wp2_with fail
                  go_meet
                  case rel => exact ⟨by rw [HH.out]; rfl, _, rfl⟩
            case rest =>
              obtain ⟨rfl, q, rfl⟩ := hcut
              have hkn : Kp wr ((wr.alloc (.cells #[iv f, .slice tp tn tc] 53)).drewN q) := Kp.trans (Kp.new _ _) (Kp.of_drewN _ _)
              have hd0 : ((wr.alloc (.cells #[iv f, .slice tp tn tc] 53)).drewN q).cell? ⟨wr.heap.size, 0, none⟩ = some (iv f) := Kp.cell (Kp.of_drewN _ _) (by rw [World.cell?_alloc_at _ _ _ _ rfl]; rfl)
              have hd1 : ((wr.alloc (.cells #[iv f, .slice tp tn tc] 53)).drewN q).cell? ⟨wr.heap.size, 1, none⟩ = some (.slice tp tn tc) := Kp.cell (Kp.of_drewN _ _) (by rw [World.cell?_alloc_at _ _ _ _ rfl]; rfl)
              generalize (wr.alloc (.cells #[iv f, .slice tp tn tc] 53)).drewN q = wq at *
              have hI := Kp.is hkn HI.out
              have hkq := Kp.trans hkw2 (Kp.trans hkk hkn)
              obtain ⟨bn, hbn⟩ : ∃ x, x = wr.heap.size := ⟨_, rfl⟩
              rw [← hbn] at hd0 hd1 ⊢
              clear hbn
              cases hh : headOk (prevAt ls k) (f, ts) with
              | false =>
                have HF := Lib.hid (show shapedL b0 b1 ls = false by rw [Hfin.out, Hline.out, Hat.out, hh]; rfl)
                clear hh
                go_wp2_with fail
                go_ret
                exact ⟨by rw [HF.out]; rfl, hkq⟩
              | true =>
                have Hh := Lib.hid hh; clear hh
                by_cases h24 : n + tn ≤ 24
                · go_wp2_with fail
                  go_loopw [6] (fun i wv => ∃ j : Nat, j ≤ tn ∧ i = .int .i64 j ∧ wq = wv ∧ ∀ j' (h : j' < ts.length), j' < j → 1 ≤ ts[j'] ∧ ts[j'] ≤ 7) (fun i _ => tn - (intOf i).toNat)
                  case atStart => exact ⟨0, by omega, rfl, rfl, by omega⟩
                  case round =>
                    obtain ⟨j, hj, rfl, rfl, hts⟩ := hrel
                    have Hts := Lib.hid hts; clear hts
                    by_cases hjt : j < tn
                    · obtain ⟨tb, toff, rfl, _, hcc⟩ := hI.at j hjt
                      have hck := hcc j hjt
                      have hjl : j < ts.length := by rw [Htl.out]; exact hjt
                      obtain ⟨t, ht⟩ : ∃ t, t = ts[j] := ⟨_, rfl⟩
                      rw [← ht] at hck
                      have Ht := Lib.hid ht; clear ht hcc
                      by_cases hr : 1 ≤ t ∧ t ≤ 7
                      · obtain ⟨hr1, hr2⟩ := hr
                        go_wp2_with fail
                        go_roundw
                        case rel =>
                          refine ⟨j + 1, by omega, by go_num, trivial, fun j' h hj' => ?_⟩
                          rcases Nat.lt_or_ge j' j with g | g
                          · exact Hts.out j' h g
                          · obtain rfl : j' = j := by omega
                            rw [← Ht.out]; exact ⟨hr1, hr2⟩
                        case measure => simp [intOf]; omega
                      · have HF := Lib.hid (show shapedL b0 b1 ls = false by
                          rw [Hfin.out, Hline.out, Hat.out, toksOk_no ts j hjl (by rw [← Ht.out]; exact hr)]; simp)
                        by_cases hr1 : t < 1
                        · go_wp2_with fail
                          go_ret
                          exact ⟨by rw [HF.out]; rfl, hkq⟩
                        · have hr2 : 7 < t := by omega
                          clear hr
                          go_wp2_with fail
                          go_ret
                          exact ⟨by rw [HF.out]; rfl, hkq⟩
                    · obtain rfl : j = tn := by omega
                      have htk := toksOk_yes ts (fun j' h => Hts.out j' h (by rw [← Htl.out]; exact h))
                      have Htk := Lib.hid htk; clear htk
                      have HF := Lib.hid (show linesOk none 0 ls = linesOk (prevAt ls (k + 1)) (n + j) (ls.drop (k + 1)) by
                        rw [Hline.out, Hat.out, Hh.out]
                        simp only [Htk.out, Htl.out, decide_eq_true h24, Bool.true_and])
                      go_wp2_with fail
                      go_roundw
                      case rel => exact ⟨k + 1, n + j, by omega, h24, by go_num, by go_num, Kp.trans hkk hkn, HF.out⟩
                      case measure => simp [intOf]; omega
                · have HF := Lib.hid (show shapedL b0 b1 ls = false by
                    rw [Hfin.out, Hline.out, Hat.out, Hh.out]
                    simp only [Htl.out, decide_eq_false h24, Bool.and_false, Bool.false_and])
                  go_wp2_with fail
                  go_ret
                  exact ⟨by rw [HF.out]; rfl, hkq⟩
          · obtain rfl : k = ls.length := by rw [Hll.out]; omega
            have HF := Lib.hid (show shapedL b0 b1 ls = true by
              rw [Hfin.out, Hline.out, List.drop_of_length_le (Nat.le_refl _)]; rfl)
            obtain rfl : nl = ls.length := Hll.out.symm
            have hkq := Kp.trans hkw2 hkk
            go_wp2_with fail
            go_ret
            exact ⟨by rw [HF.out]; rfl, hkq⟩
end Go.Proofs.YtpemfmjplejdiaaDoor

namespace Go.Proofs.YtpemfmjplejdiaaDoor
open Go.RowKit

section
variable {P : Program} {ops : Array Oper} {md : Region.Mode} {w : World}

/-- A region is shown to end at its end. -/
def Qn (Q : Exit → Act → World → Prop) : Exit → Act → World → Prop
  | .normal, a, w => Q .normal a w
  | _, _, _ => False

theorem any_start {id : Nat} {Q : Exit → Act → World → Prop} {a : Act} {l : List Oper} (hm : P.follows .mixedOrders = true)
    (h : wpAny P .any l.toArray (Qn Q) l.length (Array.replicate l.length false) a w.drew) : (Code.region id l.toArray true).wp P Q a w :=
  Code.wp_mono (fun e a w h => by cases e <;> first | exact h | exact h.elim) (wp_region_any (Q := Qn Q) hm (by simpa using h))

theorem any_end {Q : Exit → Act → World → Prop} {a : Act} {listed : Array Bool} {fuel : Nat} (hr : (Region.ready md ops listed).isEmpty = true) (h : Q .normal a w) : wpAny P md ops (Qn Q) fuel listed a w :=
  wpAny_done (Q := Qn Q) (by simpa using hr) h fuel

/-- The operations of these numbers. -/
def opsAt (ops : Array Oper) : List Nat → List Oper
  | [] => []
  | i :: r => match ops[i]? with | some o => o :: opsAt ops r | none => opsAt ops r

def listAll (listed : Array Bool) : List Nat → Array Bool
  | [] => listed
  | i :: r => listAll (listed.setIfInBounds i true) r

/-! ### One operation that is the only one that may come up -/
theorem any_one {Q : Exit → Act → World → Prop} {a : Act} {listed : Array Bool} {n : Nat} (i : Nat) (hr : (decide (Region.ready md ops listed = [i]) && decide (i < ops.size) && decide (0 < n)) = true)
    (h : wpList P ops (fun e a2 w2 => match e with | .normal => wpAny P md ops (Qn Q) (n - 1) (listed.setIfInBounds i true) a2 w2 | _ => False) (opsAt ops [i]) a w) : wpAny P md ops (Qn Q) n listed a w := by
  simp only [Bool.and_eq_true, decide_eq_true_eq] at hr
  obtain ⟨⟨hr, hi⟩, hn⟩ := hr
  obtain ⟨fuel, rfl⟩ : ∃ fuel, n = fuel + 1 := ⟨n - 1, by omega⟩
  rw [Nat.add_sub_cancel] at h
  have ho : ops[i]? = some ops[i] := Array.getElem?_eq_getElem hi
  generalize ops[i] = o at ho
  simp only [opsAt, ho] at h
  refine ⟨fun h0 => (by rw [h0] at hr; cases hr), fun j hj => ?_⟩
  rw [hr] at hj
  obtain rfl : j = i := by simpa using hj
  unfold wpOp
  simp only [ho]
  unfold wpList at h
  split
  · rename_i hw
    rw [if_pos hw] at h
    rcases h with h1 | ⟨_, h2⟩
    · left
      unfold Oper.wp at h1 ⊢
      generalize (execOp a.eval o).run P w = r at h1 ⊢
      cases r with
      | ok nx w' =>
        cases nx <;> simp only [Oper.upon] at h1 ⊢ <;> first
          | exact h1
          | exact Calls.mono h1 (fun e w'' he => by cases e <;> first | exact he | exact he.elim | (obtain ⟨_, _, hf⟩ := he; exact hf.elim))
          | exact Rows.mono h1 (fun _ _ he => he)
      | halt x w' => cases x <;> simp only [Oper.upon] at h1
    · exact absurd h2 (by simp [LetsOut])
  · rename_i hw
    rw [if_neg hw] at h
    exact h

/-! ### Operations that look at no world -/
/-- These hand on a value or end the call: nothing else. -/
def valued (o : Oper) : Bool :=
  match o.op with
  | .move _ | .assign _ | .pick .. | .binOp .. | .unOp .. | .convert .. | .slice .. | .build .. | .fieldAddr .. | .field .. | .indexAddr .. | .index .. | .extract .. => true
  | .nilCheck _ => true
  | .call c => (match c.callee with | .builtin .len => true | .builtin .cap => true | _ => false)
  | _ => false

theorem ok_bind_value {s : Sem Value} {x : Next} {w' : World} (h : (do pure (Next.value (← s)) : Sem Next).run P w = .ok x w') : ∃ v, x = .value v := by
  simp only [Sem.run_bind] at h
  cases hs : s.run P w with
  | ok v w1 => rw [hs] at h; simp only [Result.andThen, Sem.run_pure, Result.ok.injEq] at h; exact ⟨v, h.1.symm⟩
  | halt x w1 => rw [hs] at h; simp [Result.andThen] at h

theorem vd_bind {α : Type} {s : Sem α} {f : α → Sem Next} (hf : ∀ (a : α) (w : World) x w', (f a).run P w = .ok x w' → ∃ v, x = .value v) {x : Next} {w' : World} (h : (s >>= f).run P w = .ok x w') : ∃ v, x = .value v := by
  simp only [Sem.run_bind] at h
  cases hs : s.run P w with
  | ok v w1 => rw [hs] at h; exact hf _ _ _ _ h
  | halt x w1 => rw [hs] at h; simp [Result.andThen] at h
theorem vd_pure (v : Value) (x : Next) (w' : World) (h : (pure (Next.value v) : Sem Next).run P w = .ok x w') : ∃ v, x = .value v := by
  simp only [Sem.run_pure, Result.ok.injEq] at h; exact ⟨_, h.1.symm⟩

theorem valued_ok {o : Oper} {ρ : Operand → Value} {x : Next} {w' : World} (hv : valued o = true) (h : (execOp ρ o).run P w = .ok x w') : ∃ v, x = .value v := by
  obtain ⟨dst, op, type, pos, after, guard⟩ := o
  unfold execOp at h
  cases op <;> simp only [valued, Bool.false_eq_true] at hv <;> simp only at h
  case move y => simp only [Sem.run_pure, Result.ok.injEq] at h; exact ⟨_, h.1.symm⟩
  case assign y => simp only [Sem.run_pure, Result.ok.injEq] at h; exact ⟨_, h.1.symm⟩
  case pick c p q =>
    simp only [Sem.run_bind] at h
    cases hs : (asBool (ρ c)).run P w with
    | ok v w1 => rw [hs] at h; simp only [Result.andThen, Sem.run_pure, Result.ok.injEq] at h; exact ⟨_, h.1.symm⟩
    | halt x w1 => rw [hs] at h; simp [Result.andThen] at h
  case nilCheck y =>
    have hp : (runtimePanic .nilDeref : Sem Next).run P w = .ok x w' → ∃ v, x = .value v := by
      intro he
      exfalso
      simp [runtimePanic, goPanic] at he
    (repeat' split at h) <;> first
      | exact hp h
      | (simp only [Sem.run_pure, Result.ok.injEq] at h; exact ⟨_, h.1.symm⟩)
      | (refine vd_bind (fun p w1 x1 w2 h1 => vd_bind (fun q w3 x3 w4 h3 => ?_) h1) h
         split at h3
         · exact vd_bind (fun _ _ _ _ h5 => vd_pure _ _ _ h5) h3
         · exact vd_pure _ _ _ h3)
  case call c =>
    obtain ⟨callee, args, ats⟩ := c
    cases callee with
    | value f => cases hv
    | invoke r m => cases hv
    | builtin b =>
      cases b <;> first
        | (cases hv; done)
        | (rw [Sem.run_bind] at h; exact ok_bind_value h)
  all_goals exact ok_bind_value h

def takeB (md : Region.Mode) (ops : Array Oper) : Array Bool → List Nat → Bool
  | _, [] => true
  | listed, i :: r => (match ops[i]? with | some o => valued o | none => false) && (Region.ready md ops listed).contains i && Region.free md ops listed i && takeB md ops (listed.setIfInBounds i true) r

theorem yields_of_quiet {o : Oper} {a : Act} {v : Value} (hv : valued o = true) (hw : Region.wanted o (yielded ops a.tmps) = true) (h : ∀ w : World, True → o.quietAt P a (fun _ => True) w v) : Yields P ops o v a := by
  left
  refine ⟨hw, fun w => ?_⟩
  have h1 := h w trivial
  unfold Oper.quietAt at h1
  cases hr : (execOp a.eval o).run P w with
  | ok x w' =>
    obtain ⟨u, rfl⟩ := valued_ok hv hr
    rw [hr] at h1
    simp only [Oper.quietUpon] at h1
    obtain ⟨rfl, rfl⟩ := h1
    rfl
  | halt x w' =>
    rw [hr] at h1
    simp only [Oper.quietUpon] at h1

theorem take_all {Q : Exit → Act → World → Prop} (hs : Region.noSelect ops = true) (fuel : Nat) : ∀ (is : List Nat) (listed : Array Bool) (a : Act), takeB md ops listed is = true →
    wpQuiet P ops (fun _ => True) (fun a' => wpAny P md ops (Qn Q) fuel (listAll listed is) a' w) (opsAt ops is) a → wpAny P md ops (Qn Q) (fuel + is.length) listed a w
  | [], _, _, _, h => h
  | i :: r, listed, a, hB, h => by
    simp only [takeB, Bool.and_eq_true] at hB
    obtain ⟨⟨⟨hv, hr⟩, hf⟩, hB'⟩ := hB
    cases ho : ops[i]? with
    | none => rw [ho] at hv; cases hv
    | some o =>
      rw [ho] at hv
      simp only [opsAt, ho] at h
      unfold wpQuiet at h
      rw [List.length_cons, ← Nat.add_assoc]
      split at h
      · rename_i hw
        obtain ⟨v, h1, h2⟩ := h
        exact wpAny_take (Q := Qn Q) ho hs hf hr (fun _ _ _ h => h.elim) (yields_of_quiet hv hw h1) (take_all hs fuel r _ _ hB' h2)
      · rename_i hw
        exact wpAny_take (Q := Qn Q) ho hs hf hr (fun _ _ _ h => h.elim) (.inr ⟨by simpa using hw, rfl⟩) (take_all hs fuel r _ _ hB' h)

/-- Operations that look at no world, taken first. -/
theorem any_take {Q : Exit → Act → World → Prop} {n : Nat} {listed : Array Bool} {a : Act} (is : List Nat) (hB : (Region.noSelect ops && takeB md ops listed is && decide (is.length ≤ n)) = true)
    (h : wpQuiet P ops (fun _ => True) (fun a' => wpAny P md ops (Qn Q) (n - is.length) (listAll listed is) a' w) (opsAt ops is) a) : wpAny P md ops (Qn Q) n listed a w := by
  simp only [Bool.and_eq_true, decide_eq_true_eq] at hB
  have := take_all hB.1.1 (n - is.length) is listed a hB.1.2 h
  rwa [Nat.sub_add_cancel hB.2] at this


/-! ### Any operations, by what holds whichever have run -/
def unl (listed : Array Bool) : Nat := listed.toList.count false
theorem ready_spec {listed : Array Bool} {i : Nat} (h : i ∈ Region.ready md ops listed) : i < ops.size ∧ listed.getD i true = false ∧ ∀ o, ops[i]? = some o → ∀ e ∈ o.after, Region.binds md e = true → listed.getD e.on false = true := by
  unfold Region.ready at h
  rw [List.mem_filter] at h
  obtain ⟨h1, h2⟩ := h
  simp only [Bool.and_eq_true, Bool.not_eq_true'] at h2
  refine ⟨List.mem_range.1 h1, h2.1, fun o ho e he hb => ?_⟩
  have h3 := h2.2
  rw [ho] at h3
  simp only [Option.map_some, Option.getD_some] at h3
  have h4 := Array.all_eq_true_iff_forall_mem.1 h3 e he
  simpa [hb] using h4
theorem unl_set {listed : Array Bool} {i : Nat} (h : listed.getD i true = false) : unl (listed.setIfInBounds i true) + 1 = unl listed := by
  have hi : i < listed.size := by
    rcases Nat.lt_or_ge i listed.size with h1 | h1
    · exact h1
    · simp [Array.getD, Nat.not_lt.2 h1] at h
  have hv : listed[i] = false := by simpa [Array.getD, hi] using h
  unfold unl
  rw [Array.toList_setIfInBounds]
  have h1 : i < listed.toList.length := by simpa using hi
  have h2 : listed.toList[i] = false := by simpa using hv
  generalize listed.toList = l at *
  have e : l = l.take i ++ false :: l.drop (i + 1) := by
    rw [← h2, ← List.drop_eq_getElem_cons h1, List.take_append_drop]
  have hc : l.count false = (l.take i).count false + (1 + (l.drop (i + 1)).count false) := by
    have := congrArg (List.count false) e
    rw [List.count_append, List.count_cons] at this
    simp at this
    omega
  rw [List.set_eq_take_append_cons_drop, if_pos h1, hc, List.count_append, List.count_cons]
  simp
  omega
theorem any_inv {Q : Exit → Act → World → Prop} {I : Array Bool → Act → World → Prop} (hend : ∀ listed a w, I listed a w → Region.ready md ops listed = [] → Q .normal a w)
    (hstep : ∀ listed a w i, I listed a w → i < ops.size → listed.getD i true = false → (∀ o, ops[i]? = some o → ∀ e ∈ o.after, Region.binds md e = true → listed.getD e.on false = true) → wpOp P ops (Qn Q) i (fun a' w' => I (listed.setIfInBounds i true) a' w') a w) :
    ∀ (n : Nat) (listed : Array Bool) (a : Act) (w : World), unl listed ≤ n → I listed a w → wpAny P md ops (Qn Q) n listed a w
  | 0, listed, a, w, hn, h => by
    have hr : Region.ready md ops listed = [] := by
      cases hq : Region.ready md ops listed with
      | nil => rfl
      | cons i r =>
        have h1 := (ready_spec (i := i) (by rw [hq]; simp)).2.1
        have := unl_set h1
        omega
    exact ⟨hr, hend _ _ _ h hr⟩
  | n + 1, listed, a, w, hn, h => by
    refine ⟨fun hr => hend _ _ _ h hr, fun i hi => ?_⟩
    obtain ⟨h1, h2, h3⟩ := ready_spec hi
    have hs := hstep listed a w i h h1 h2 h3
    have hm := unl_set h2
    have hK : ∀ a' w', I (listed.setIfInBounds i true) a' w' → wpAny P md ops (Qn Q) n (listed.setIfInBounds i true) a' w' := fun a' w' h' => any_inv hend hstep n _ a' w' (by omega) h'
    unfold wpOp at hs ⊢
    cases ho : ops[i]? with
    | none => rw [ho] at hs; exact hK _ _ hs
    | some o =>
      rw [ho] at hs
      simp only at hs ⊢
      split
      · rename_i hw
        rw [if_pos hw] at hs
        rcases hs with hs | hs
        · exact .inl (Oper.wp_mono hK hs)
        · exact .inr hs
      · rename_i hw
        rw [if_neg hw] at hs
        exact hK _ _ hs
end
end Go.Proofs.YtpemfmjplejdiaaDoor
