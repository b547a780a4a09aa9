/- Parts of the walks and plain laws, merged: Check, Open, Law, LawB, PatO, Gra, LawA, Loads, PatP, Says. Each theorem bears its own conditions; no other. -/
import Derived.Test.YtjbjgpcldcpjmaaDoorShaped
import Derived.Deep.SlicePairs
import Derived.OpenShut
import Derived.Test.YtjbjgpcldcpjmaaDoorCards
import Derived.Test.YtjbjgpcldcpjmaaDoorTie
import Derived.ProofKit
import Derived.Deep.DeepHandedRow
import Derived.Stop.LaidErr
import Derived.Lay
import Derived.Stop.LaidTwo
import Derived.LaidEqlPtr
import Derived.Test.YtjbjgpcldcpjmaaDoorGa1
import Derived.Laws.IdiomStrings
namespace Go.Proofs.YtjbjgpcldcpjmaaDoor
open Go.RowKit

def S0 : Nat → Bool := fun _ => false
def begunL (b0 b1 : List Int) : Nat → Bool := b1.foldl (fun S t => upd S (3 + t).toNat true) (b0.foldl (fun S t => upd S t.toNat true) S0)
def runToks (S : Nat → Bool) (f : Int) : List Int → Nat × (Nat → Bool)
  | [] => (0, S)
  | t :: r => if offL S f t r.isEmpty = 0 then runToks (tookL S f t) f r else (offL S f t r.isEmpty, S)
def runLs (S : Nat → Bool) : List Ln → Nat × (Nat → Bool)
  | [] => (0, S)
  | l :: r => if (runToks S l.1 l.2).1 = 0 then runLs (runToks S l.1 l.2).2 r else runToks S l.1 l.2
def oneWay (ls : List Ln) : Bool := ls.length == 1 && (ls[0]?).map (·.1) == some 0
def endL (S : Nat → Bool) (ls : List Ln) : Nat := if !safeL S 0 || (!oneWay ls && !safeL S 1) then 12 else 0
/-- The number of the error; 0: none. -/
def checkL (b0 b1 : List Int) (ls : List Ln) : Nat :=
  if shapedL b0 b1 ls then (if (runLs (begunL b0 b1) ls).1 = 0 then endL (runLs (begunL b0 b1) ls).2 ls else (runLs (begunL b0 b1) ls).1) else 9

theorem okB_mem {l : List Int} (h : okB l = true) : ∀ j (hj : j < l.length), l[j] = 1 ∨ l[j] = 2 := by
  match l, h with
  | [], _ => intro j hj; simp at hj
  | [x], h => intro j hj; obtain rfl : j = 0 := by simpa using hj
              simpa [okB] using h
  | [x, y], h =>
    intro j hj
    simp only [okB, Bool.and_eq_true, beq_iff_eq] at h
    obtain ⟨rfl, rfl⟩ := h
    rcases (show j = 0 ∨ j = 1 by simp at hj; omega) with rfl | rfl
    · left; rfl
    · right; rfl
  | _ :: _ :: _ :: _, h => simp [okB] at h

theorem linesOk_mem {ls : List Ln} : ∀ {prev : Option Int} {n : Nat}, linesOk prev n ls = true → ∀ j (h : j < ls.length), (ls[j].1 = 0 ∨ ls[j].1 = 1) ∧ 0 < ls[j].2.length ∧ ∀ i (hi : i < ls[j].2.length), 1 ≤ ls[j].2[i] ∧ ls[j].2[i] ≤ 7 := by
  induction ls with
  | nil => intro _ _ _ j h; simp at h
  | cons l r ih =>
    intro prev n hl j h
    simp only [linesOk, Bool.and_eq_true] at hl
    obtain ⟨⟨⟨h1, h2⟩, h3⟩, h4⟩ := hl
    rcases j with _ | j
    · simp only [headOk, Bool.and_eq_true, Bool.or_eq_true, beq_iff_eq, bne_iff_ne] at h1
      refine ⟨h1.1.1, by have := h1.2; simp only [List.getElem_cons_zero]; omega, fun i hi => ?_⟩
      have := List.all_eq_true.1 h2 _ (List.getElem_mem hi)
      simpa using this
    · exact ih h4 j (by simpa using h)
theorem shapedL_mem {b0 b1 : List Int} {ls : List Ln} (h : shapedL b0 b1 ls = true) : okB b0 = true ∧ okB b1 = true ∧ 0 < ls.length ∧ ∀ j (h : j < ls.length), (ls[j].1 = 0 ∨ ls[j].1 = 1) ∧ 0 < ls[j].2.length ∧ ∀ i (hi : i < ls[j].2.length), 1 ≤ ls[j].2[i] ∧ ls[j].2[i] ≤ 7 := by
  simp only [shapedL, Bool.and_eq_true, bne_iff_ne] at h
  exact ⟨h.1.1.1, h.1.1.2, by omega, linesOk_mem h.2⟩

def foldSet (S : Nat → Bool) (d : Int) (l : List Int) : Nat → Bool := l.foldl (fun S t => upd S (d + t).toNat true) S
theorem foldSet_succ (S : Nat → Bool) (d : Int) (l : List Int) (k : Nat) (h : k < l.length) : foldSet S d (l.take (k + 1)) = upd (foldSet S d (l.take k)) (d + l[k]).toNat true := by
  unfold foldSet
  rw [take_step l k h, List.foldl_append]; rfl
theorem begunL_eq (b0 b1 : List Int) : begunL b0 b1 = foldSet (foldSet S0 0 b0) 3 b1 := by
  unfold begunL foldSet
  simp only [Int.zero_add]
theorem runToks_at (S : Nat → Bool) (f : Int) (ts : List Int) (j : Nat) (h : j < ts.length) : runToks S f (ts.drop j) = if offL S f ts[j] (j + 1 == ts.length) = 0 then runToks (tookL S f ts[j]) f (ts.drop (j + 1)) else (offL S f ts[j] (j + 1 == ts.length), S) := by
  rw [drop_cons ts j h, runToks]
  have : (ts.drop (j + 1)).isEmpty = (j + 1 == ts.length) := by
    rw [Bool.eq_iff_iff]; simp; omega
  rw [this]
theorem runLs_at (S : Nat → Bool) (ls : List Ln) (k : Nat) (h : k < ls.length) : runLs S (ls.drop k) = if (runToks S ls[k].1 ls[k].2).1 = 0 then runLs (runToks S ls[k].1 ls[k].2).2 (ls.drop (k + 1)) else runToks S ls[k].1 ls[k].2 := by
  rw [drop_cons ls k h, runLs]

theorem kp_step2 {w0 w w' : World} {b : Nat} (hk : Kp w0 w) (k : Fr [b] w w') (h : w0.heap.size < b) : Kp w0 w' := ((Fr.of_kp hk).step k (fun j hj => .inr (by simp only [List.mem_singleton] at hj; omega))).kp
theorem newWalk (w : World) : WalkAt (w.alloc (.cells #[.bool false, .bool false, .bool false, .bool false, .bool false, .bool false, .bool false, .bool false, .bool false, .bool false, .bool false, .bool false, .bool false, .bool false] 70)) w.heap.size S0 := fun j hj => by
  constructor
  · rw [World.cell?_alloc_at _ _ _ _ rfl]
    rcases (show j = 0 ∨ j = 1 ∨ j = 2 ∨ j = 3 ∨ j = 4 ∨ j = 5 ∨ j = 6 ∨ j = 7 ∨ j = 8 ∨ j = 9 ∨ j = 10 ∨ j = 11 ∨ j = 12 ∨ j = 13 by omega) with rfl | rfl | rfl | rfl | rfl | rfl | rfl | rfl | rfl | rfl | rfl | rfl | rfl | rfl <;> rfl
  · exact World.frozen?_alloc_at _ _ _ _ rfl

set_option maxRecDepth 100000 in
set_option maxHeartbeats 4000000 in
theorem check_any (w : World) (E : Nat → Addr) (hE : Errs w E) (nm : ByteArray) (a0 a1 al : Option Addr) (n0 c0 n1 c1 nl cl : Nat) (b0 b1 : List Int) (ls : List Ln) (h0 : Is w a0 n0 b0) (h1 : Is w a1 n1 b1) (hl : Lns w al nl ls) :
    Calls Tryd.prog 16 #[.agg #[.string nm, .slice a0 n0 c0, .slice a1 n1 c1, .slice al nl cl]] w fun e w' => e = .returned (errV E (checkL b0 b1 ls)) ∧ Kp w w' := by
  have hnl := hl.2.1
  have Hll := Lib.hid hl.1
  have hnew : ∀ j v, [Value.string nm, .slice a0 n0 c0, .slice a1 n1 c1, .slice al nl cl][j]? = some v → (w.alloc (.cells #[.string nm, .slice a0 n0 c0, .slice a1 n1 c1, .slice al nl cl] 26)).cell? ⟨w.heap.size, j, none⟩ = some v := by
    intro j v hv
    rw [World.cell?_alloc_at _ _ _ _ rfl]
    simpa using hv
  have Hnew := Lib.hid hnew; clear hnew
  have i0 : ∀ w, (Instr.index 23 (.agg #[.slice a0 n0 c0, .slice a1 n1 c1]) (.int .i64 0)).run Tryd.prog w = .ok (.slice a0 n0 c0) w := fun _ => by kernel_rfl
  have i1 : ∀ w, (Instr.index 23 (.agg #[.slice a0 n0 c0, .slice a1 n1 c1]) (.int .i64 1)).run Tryd.prog w = .ok (.slice a1 n1 c1) w := fun _ => by kernel_rfl
  go_enter Tryd.func16, Tryd.ntmps16
  go_wp2_with fail
  (with_reducible refine (shaped_any _ nm a0 a1 al n0 c0 n1 c1 nl cl b0 b1 ls (Kp.is (Kp.new _ _) h0) (Kp.is (Kp.new _ _) h1) (Kp.lns (Kp.new _ _) hl)).mono ?_)
  rintro e w1 ⟨rfl, hk1⟩
  have hkw := Kp.trans (Kp.new _ _) hk1
  have hE1 := Kp.errs hkw hE
  cases hs : shapedL b0 b1 ls with
  | false =>
    have HF := Lib.hid (show checkL b0 b1 ls = 9 by unfold checkL; rw [hs]; rfl)
    have e9 := hE1.1
    clear hs
    go_wp2_with fail
    go_ret
    exact ⟨by rw [HF.out]; rfl, hkw⟩
  | true =>
    obtain ⟨hb0, hb1, hl0, hmem⟩ := shapedL_mem hs
    have HF := Lib.hid (show checkL b0 b1 ls = if (runLs (begunL b0 b1) ls).1 = 0 then endL (runLs (begunL b0 b1) ls).2 ls else (runLs (begunL b0 b1) ls).1 by unfold checkL; rw [hs]; rfl)
    have y1 := fun o => Kp.cell (Kp.new w1 o) (Kp.cell hk1 (Hnew.out 1 _ rfl))
    have y2 := fun o => Kp.cell (Kp.new w1 o) (Kp.cell hk1 (Hnew.out 2 _ rfl))
    have y3 := fun o => Kp.cell (Kp.new w1 o) (Kp.cell hk1 (Hnew.out 3 _ rfl))
    have Hb0 := Lib.hid (okB_mem hb0)
    have Hb1 := Lib.hid (okB_mem hb1)
    have Hmem := Lib.hid hmem
    clear hs hb0 hb1 hmem
    go_wp2_with fail
    have hW := newWalk w1
    have hlt1 : w.heap.size < w1.heap.size := by have := hk1.size; simp at this; omega
    have hkb := Kp.trans hkw (Kp.new w1 (.cells #[.bool false, .bool false, .bool false, .bool false, .bool false, .bool false, .bool false, .bool false, .bool false, .bool false, .bool false, .bool false, .bool false, .bool false] 70))
    have y1 := y1 (.cells #[.bool false, .bool false, .bool false, .bool false, .bool false, .bool false, .bool false, .bool false, .bool false, .bool false, .bool false, .bool false, .bool false, .bool false] 70)
    have y2 := y2 (.cells #[.bool false, .bool false, .bool false, .bool false, .bool false, .bool false, .bool false, .bool false, .bool false, .bool false, .bool false, .bool false, .bool false, .bool false] 70)
    have y3 := y3 (.cells #[.bool false, .bool false, .bool false, .bool false, .bool false, .bool false, .bool false, .bool false, .bool false, .bool false, .bool false, .bool false, .bool false, .bool false] 70)
    obtain ⟨bw, hbw⟩ : ∃ x, x = w1.heap.size := ⟨_, rfl⟩
    rw [← hbw] at hW hlt1 ⊢
    clear hbw
    generalize w1.alloc (.cells #[.bool false, .bool false, .bool false, .bool false, .bool false, .bool false, .bool false, .bool false, .bool false, .bool false, .bool false, .bool false, .bool false, .bool false] 70) = wb at *
    have hfar : ∀ w', Fr [bw] wb w' → Kp w w' := fun w' h => kp_step2 hkb h hlt1
    have Hfar := Lib.hid hfar; clear hfar
    go_loopw [22] (fun i wr => ∃ k : Nat, k ≤ 2 ∧ i = .int .i64 k ∧ Fr [bw] wb wr ∧ WalkAt wr bw (if k = 0 then S0 else if k = 1 then foldSet S0 0 b0 else foldSet (foldSet S0 0 b0) 3 b1)) (fun i _ => 2 - (intOf i).toNat)
    case atStart => exact ⟨0, by omega, rfl, Fr.refl _ _, hW⟩
    case round =>
      clear hW
      obtain ⟨k, hk, rfl, hF, hW⟩ := hrel
      rcases (show k = 0 ∨ k = 1 ∨ k = 2 by omega) with rfl | rfl | rfl
      · rw [if_pos rfl] at hW
        have hI := Kp.is (Hfar.out _ hF) h0
        have hlen : b0.length = n0 := h0.1
        have hnn : n0 ≤ 9223372036854775807 := h0.2.1
        have Hlen := Lib.hid hlen; clear hlen
        have hW0 : WalkAt wr bw (foldSet S0 0 (b0.take 0)) := hW
        clear hW
        go_wp2_with fail
        obtain ⟨wo, rfl⟩ : ∃ wo : World, wo = wr := ⟨_, rfl⟩
        go_loopw [28] (fun i wr => ∃ j : Nat, j ≤ n0 ∧ i = .int .i64 j ∧ Fr [bw] wb wr ∧ WalkAt wr bw (foldSet S0 0 (b0.take j))) (fun i _ => n0 - (intOf i).toNat)
        case atStart => exact ⟨0, by omega, rfl, hF, hW0⟩
        case round =>
          clear hW0 hF hI
          obtain ⟨j, hj, rfl, hF, hW⟩ := hrel
          have hI := Kp.is (Hfar.out _ hF) h0
          by_cases hjn : j < n0
          · obtain ⟨tb, toff, rfl, _, hcc⟩ := hI.at j hjn
            have hck := hcc j hjn
            have hjl : j < b0.length := by rw [Hlen.out]; exact hjn
            have hsucc := foldSet_succ S0 0 b0 j hjl
            have hval := Hb0.out j hjl
            clear hcc
            generalize b0[j]'hjl = t at hck hsucc hval
            have Hsucc := Lib.hid hsucc; clear hsucc
            rcases hval with rfl | rfl
            · have c := (hW 1 (by omega)).1
              have z := (hW 1 (by omega)).2
              have hW2 := hW.set 1 (by omega)
              have hF2 := hF.trans (Fr.set wr ⟨bw, 1, none⟩ (.bool true))
              go_wp2_with fail
              go_roundw
              case rel => exact ⟨j + 1, by omega, by go_num, hF2, by rw [Hsucc.out]; exact hW2⟩
              case measure => simp [intOf]; omega
            · have c := (hW 2 (by omega)).1
              have z := (hW 2 (by omega)).2
              have hW2 := hW.set 2 (by omega)
              have hF2 := hF.trans (Fr.set wr ⟨bw, 2, none⟩ (.bool true))
              go_wp2_with fail
              go_roundw
              case rel => exact ⟨j + 1, by omega, by go_num, hF2, by rw [Hsucc.out]; exact hW2⟩
              case measure => simp [intOf]; omega
          · obtain rfl : n0 = j := by omega
            rw [List.take_of_length_le (by rw [Hlen.out]; exact Nat.le_refl _)] at hW
            go_wp2_with fail
            go_roundw
            case rel => exact ⟨1, by omega, rfl, hF, hW⟩
            case measure => simp [intOf]
      · rw [if_neg (by decide), if_pos rfl] at hW
        have hI := Kp.is (Hfar.out _ hF) h1
        have hlen : b1.length = n1 := h1.1
        have hnn : n1 ≤ 9223372036854775807 := h1.2.1
        have Hlen := Lib.hid hlen; clear hlen
        have hW0 : WalkAt wr bw (foldSet (foldSet S0 0 b0) 3 (b1.take 0)) := hW
        clear hW
        go_wp2_with fail
        obtain ⟨wo, rfl⟩ : ∃ wo : World, wo = wr := ⟨_, rfl⟩
        go_loopw [28] (fun i wr => ∃ j : Nat, j ≤ n1 ∧ i = .int .i64 j ∧ Fr [bw] wb wr ∧ WalkAt wr bw (foldSet (foldSet S0 0 b0) 3 (b1.take j))) (fun i _ => n1 - (intOf i).toNat)
        case atStart => exact ⟨0, by omega, rfl, hF, hW0⟩
        case round =>
          clear hW0 hF hI
          obtain ⟨j, hj, rfl, hF, hW⟩ := hrel
          have hI := Kp.is (Hfar.out _ hF) h1
          by_cases hjn : j < n1
          · obtain ⟨tb, toff, rfl, _, hcc⟩ := hI.at j hjn
            have hck := hcc j hjn
            have hjl : j < b1.length := by rw [Hlen.out]; exact hjn
            have hsucc := foldSet_succ (foldSet S0 0 b0) 3 b1 j hjl
            have hval := Hb1.out j hjl
            clear hcc
            generalize b1[j]'hjl = t at hck hsucc hval
            have Hsucc := Lib.hid hsucc; clear hsucc
            rcases hval with rfl | rfl
            · have c := (hW 4 (by omega)).1
              have z := (hW 4 (by omega)).2
              have hW2 := hW.set 4 (by omega)
              have hF2 := hF.trans (Fr.set wr ⟨bw, 4, none⟩ (.bool true))
              go_wp2_with fail
              go_roundw
              case rel => exact ⟨j + 1, by omega, by go_num, hF2, by rw [Hsucc.out]; exact hW2⟩
              case measure => simp [intOf]; omega
            · have c := (hW 5 (by omega)).1
              have z := (hW 5 (by omega)).2
              have hW2 := hW.set 5 (by omega)
              have hF2 := hF.trans (Fr.set wr ⟨bw, 5, none⟩ (.bool true))
              go_wp2_with fail
              go_roundw
              case rel => exact ⟨j + 1, by omega, by go_num, hF2, by rw [Hsucc.out]; exact hW2⟩
              case measure => simp [intOf]; omega
          · obtain rfl : n1 = j := by omega
            rw [List.take_of_length_le (by rw [Hlen.out]; exact Nat.le_refl _)] at hW
            go_wp2_with fail
            go_roundw
            case rel => exact ⟨2, by omega, rfl, hF, hW⟩
            case measure => simp [intOf]
      · rw [if_neg (by decide), if_neg (by decide)] at hW
        rw [← begunL_eq] at hW
        rw [show ((2 : Nat) : Int) = 2 from rfl]
        obtain ⟨wo, rfl⟩ : ∃ wo : World, wo = wr := ⟨_, rfl⟩
        have y3o := hF.cell y3 (by simp; omega)
        go_wp2_with fail
        go_loopw [44] (fun i wr => ∃ (k : Nat) (S : Nat → Bool), k ≤ nl ∧ i = .int .i64 k ∧ Fr [bw] wb wr ∧ WalkAt wr bw S ∧ runLs (begunL b0 b1) ls = runLs S (ls.drop k)) (fun i _ => nl - (intOf i).toNat)
        case atStart => exact ⟨0, begunL b0 b1, by omega, rfl, hF, hW, rfl⟩
        case round =>
          clear hW hF y3o
          obtain ⟨k, S, hk, rfl, hF, hW, hrun⟩ := hrel
          have Hrun := Lib.hid hrun; clear hrun
          by_cases hlt : k < nl
          · have hkl : k < ls.length := by rw [Hll.out]; exact hlt
            have hkr := Hfar.out _ hF
            obtain ⟨b, off, tp, tn, tc, rfl, hc1, hc2, hI, htn⟩ := hl.2.2 k hkl
            have hc1 := Kp.cell hkr hc1
            have hc2 := Kp.cell hkr hc2
            obtain ⟨hfm, htpos, htm⟩ := Hmem.out k hkl
            have hat := runLs_at S ls k hkl
            obtain ⟨f, ts, hft⟩ : ∃ f ts, ls[k] = (f, ts) := ⟨_, _, rfl⟩
            rw [hft] at hc1 hI hat hfm htpos htm
            have hI : Is w tp tn ts := hI
            have hc1 : wr.cell? ⟨b, off + k * 2, none⟩ = some (iv f) := hc1
            have hfm : f = 0 ∨ f = 1 := hfm
            have Htm := Lib.hid htm; clear htm
            have htl : ts.length = tn := hI.1
            have Htl := Lib.hid htl; clear htl
            have htpos : 0 < tn := by rw [← Htl.out]; exact htpos
            have Hat := Lib.hid hat; clear hat hft
            have HI := Lib.hid hI; clear hI
            have hWq := fun o => Kp.walk (Kp.new wr o) hW
            have HWq := Lib.hid hWq; clear hWq
            have hlt2 : bw < wr.heap.size := World.block_lt_of_cell? wr _ (hW 0 (by omega)).1
            go_wp2_with fail
            have hkn := Kp.new wr (.cells #[iv f, .slice tp tn tc] 43)
            have hd0 : (wr.alloc (.cells #[iv f, .slice tp tn tc] 43)).cell? ⟨wr.heap.size, 0, none⟩ = some (iv f) := by rw [World.cell?_alloc_at _ _ _ _ rfl]; rfl
            have hd1 : (wr.alloc (.cells #[iv f, .slice tp tn tc] 43)).cell? ⟨wr.heap.size, 1, none⟩ = some (.slice tp tn tc) := by rw [World.cell?_alloc_at _ _ _ _ rfl]; rfl
            have hWq := HWq.out (.cells #[iv f, .slice tp tn tc] 43)
            have hFq := hF.trans ((Fr.of_kp hkn).mono (Y := [bw]) (by simp))
            obtain ⟨bn, hbn⟩ : ∃ x, x = wr.heap.size := ⟨_, rfl⟩
            rw [← hbn] at hd0 hd1 hlt2 ⊢
            clear hbn HWq
            generalize wr.alloc (.cells #[iv f, .slice tp tn tc] 43) = wq at *
            go_loopw [51] (fun i wv => ∃ (j : Nat) (S' : Nat → Bool), j ≤ tn ∧ i = .int .i64 j ∧ Fr [bw] wq wv ∧ WalkAt wv bw S' ∧ runToks S f ts = runToks S' f (ts.drop j)) (fun i _ => tn - (intOf i).toNat)
            case atStart => exact ⟨0, S, by omega, rfl, Fr.refl _ _, hWq, rfl⟩
            case round =>
              clear hWq
              obtain ⟨j, S', hj, rfl, hF', hW', hrt⟩ := hrel
              have Hrt := Lib.hid hrt; clear hrt
              have hFa := hFq.trans hF'
              have hka := Hfar.out _ hFa
              by_cases hjt : j < tn
              · have hjl : j < ts.length := by rw [Htl.out]; exact hjt
                have hE2 := Kp.errs hka hE
                have hd0 := hF'.cell hd0 (by simp; omega)
                have hd1 := hF'.cell hd1 (by simp; omega)
                obtain ⟨tb, toff, rfl, _, hcc⟩ := (Kp.is hka HI.out).at j hjt
                have hck := hcc j hjt
                have hat2 := runToks_at S' f ts j hjl
                obtain ⟨ht1, ht7⟩ := Htm.out j hjl
                obtain ⟨L, hL⟩ : ∃ L, L = (j + 1 == ts.length) := ⟨_, rfl⟩
                rw [← hL] at hat2
                have hb : ((j : Int) == (tn : Int) - 1) = L := by
                  rw [hL, Htl.out, Bool.eq_iff_iff]; simp; omega
                clear hcc hL
                generalize ts[j]'hjl = t at hck hat2 ht1 ht7
                have Hat2 := Lib.hid hat2; clear hat2
                go_wp2_with fail
                (with_reducible refine (takes_any _ E hE2 bw S' hW' f t hfm ht1 ht7 L).mono ?_)
                rintro e w5 ⟨rfl, hF5, hW5⟩
                by_cases hc : offL S' f t L = 0
                · have hW6 := hW5 hc
                  have hrt2 : runToks S f ts = runToks (tookL S' f t) f (ts.drop (j + 1)) := by rw [Hrt.out, Hat2.out, if_pos hc]
                  rw [show errV E (offL S' f t L) = .nilIface by rw [hc]; rfl]
                  have Hrt2 := Lib.hid hrt2
                  clear hW5 hrt2 hc
                  go_wp2_with fail
                  go_roundw
                  case rel => exact ⟨j + 1, tookL S' f t, by omega, by go_num, hF'.trans hF5, hW6, Hrt2.out⟩
                  case measure => simp [intOf]; omega
                · have hk5 := Hfar.out _ (hFa.trans hF5)
                  have HF2 := Lib.hid (show checkL b0 b1 ls = offL S' f t L by
                    have h2 : runToks S f ts = (offL S' f t L, S') := by rw [Hrt.out, Hat2.out, if_neg hc]
                    have h3 : runLs (begunL b0 b1) ls = (offL S' f t L, S') := by rw [Hrun.out, Hat.out, h2]; exact if_neg hc
                    rw [HF.out, h3]; exact if_neg hc)
                  rw [show errV E (offL S' f t L) = .iface 134 (.pointer (some (E (offL S' f t L)))) from if_neg hc]
                  have Hc := Lib.hid hc
                  clear hW5 hc
                  go_wp2_with fail
                  go_ret
                  exact ⟨by rw [HF2.out]; unfold errV; rw [if_neg Hc.out]; rfl, hk5⟩
              · obtain rfl : j = tn := by omega
                have hrt2 : runLs (begunL b0 b1) ls = runLs S' (ls.drop (k + 1)) := by
                  have h2 : runToks S f ts = (0, S') := by rw [Hrt.out, List.drop_of_length_le (by rw [Htl.out]; exact Nat.le_refl _)]; rfl
                  rw [Hrun.out, Hat.out, h2]; rfl
                have Hrt2 := Lib.hid hrt2; clear hrt2
                go_wp2_with fail
                go_roundw
                case rel => exact ⟨k + 1, S', by omega, by go_num, hFa, hW', Hrt2.out⟩
                case measure => simp [intOf]; omega
          · obtain rfl : k = ls.length := by rw [Hll.out]; omega
            obtain rfl : nl = ls.length := Hll.out.symm
            have hkr := Hfar.out _ hF
            have y3 := hF.cell y3 (by simp; omega)
            have HF2 := Lib.hid (show checkL b0 b1 ls = endL S ls by
              have h3 : runLs (begunL b0 b1) ls = (0, S) := by rw [Hrun.out, List.drop_of_length_le (Nat.le_refl _)]; rfl
              rw [HF.out, h3]; rfl)
            have hE2 := Kp.errs hkr hE
            obtain ⟨b, off, tp, tn, tc, rfl, hc1, hc2, hI, htn⟩ := hl.2.2 0 hl0
            have hc1 := Kp.cell hkr hc1
            rw [Nat.zero_mul, Nat.add_zero] at hc1
            have hone : oneWay ls = (ls.length == 1 && ls[0].1 == 0) := by
              unfold oneWay
              rw [List.getElem?_eq_getElem hl0]; rfl
            generalize ls[0].1 = g at hc1 hone
            have Hone := Lib.hid hone; clear hone
            clear hI htn hc2
            go_upto_region 24 with fail
            go_cut [13] (fun v wc => v = .bool (oneWay ls) ∧ wr = wc)
            case first =>
              by_cases hl1 : ls.length = 1
              · have hb : ((ls.length : Int) == 1) = true := by simp; omega
                have HO := Lib.hid (show oneWay ls = (g == 0) by rw [Hone.out, hl1]; rfl)
                clear hl1
                go_wp2_with fail
                go_meet
                case rel => exact ⟨by rw [HO.out], rfl⟩
              · have hb : ((ls.length : Int) == 1) = false := by simp; omega
                have HO := Lib.hid (show oneWay ls = false by rw [Hone.out, beq_false_of_ne hl1]; rfl)
                clear hl1
                go_wp2_with fail
                go_meet
                case rel => exact ⟨by rw [HO.out], rfl⟩
            case rest =>
              obtain ⟨rfl, rfl⟩ := hcut
              have e12 := hE2.2.2.2
              go_wp2_with fail
              (with_reducible refine (safe_any _ bw S 0 (by omega) hW).mono ?_)
              rintro e w6 ⟨rfl, rfl⟩
              cases hs0 : safeL S 0 with
              | false =>
                have HF3 := Lib.hid (show checkL b0 b1 ls = 12 by rw [HF2.out]; unfold endL; rw [hs0]; rfl)
                clear hs0
                go_wp2_with fail
                go_ret
                exact ⟨by rw [HF3.out]; rfl, hkr⟩
              | true =>
                cases how : oneWay ls with
                | true =>
                  have HF3 := Lib.hid (show checkL b0 b1 ls = 0 by rw [HF2.out]; unfold endL; rw [hs0, how]; rfl)
                  clear hs0 how
                  go_wp2_with fail
                  go_ret
                  exact ⟨by rw [HF3.out]; rfl, hkr⟩
                | false =>
                  have HF3 := Lib.hid (show checkL b0 b1 ls = if safeL S 1 then 0 else 12 by rw [HF2.out]; unfold endL; rw [hs0, how]; cases safeL S 1 <;> rfl)
                  clear hs0 how
                  go_wp2_with fail
                  (with_reducible refine (safe_any _ bw S 1 (by omega) hW).mono ?_)
                  rintro e w7 ⟨rfl, rfl⟩
                  cases hs1 : safeL S 1 with
                  | false =>
                    have HF4 := Lib.hid (show checkL b0 b1 ls = 12 by rw [HF3.out, hs1]; rfl)
                    clear hs1
                    go_wp2_with fail
                    go_ret
                    exact ⟨by rw [HF4.out]; rfl, hkr⟩
                  | true =>
                    have HF4 := Lib.hid (show checkL b0 b1 ls = 0 by rw [HF3.out, hs1]; rfl)
                    clear hs1
                    go_wp2_with fail
                    go_ret
                    exact ⟨by rw [HF4.out]; rfl, hkr⟩
end Go.Proofs.YtjbjgpcldcpjmaaDoor

namespace Go.Proofs.YtjbjgpcldcpjmaaDoor
open Go.ChangeShapes Go.WideShapes Go.RowKit Go.Deep

theorem weights_of_mem {H : Type} {P : Program} {e : TypeId} {x : Nat} : ∀ {l : List (DataW H)} {d : DataW H}, d ∈ l → x ∈ d.weights P e → x ∈ DataW.weightsAll P e l
  | d0 :: r, d, hd, hx => by
    simp only [DataW.weightsAll, List.mem_append]
    rcases List.mem_cons.1 hd with rfl | hd
    · exact .inl hx
    · exact .inr (weights_of_mem hd hx)
/-- What the row says of each argument's size. -/
theorem weights_at {H : Type} {P : Program} {gs : List (DataW H)} {t : TypeId} {d : DataW H} : ∀ {ts : List TypeId} {ds : List (DataW H)} {j : Nat}, (DataW.weightsEach P (ts ++ []) (ds ++ gs)).all (· ≤ reachBytes) = true → ts[j]? = some t → ds[j]? = some d → ∀ k ∈ d.weights P t, k ≤ 140737488351232
  | t0 :: ts, d0 :: ds, 0, h, ht, hd => by
    obtain rfl : t0 = t := by simpa using ht
    obtain rfl : d0 = d := by simpa using hd
    intro k hk
    simp only [List.cons_append, DataW.weightsEach, List.all_append, Bool.and_eq_true] at h
    have := of_decide_eq_true (List.all_eq_true.1 h.1 k hk)
    exact this
  | t0 :: ts, d0 :: ds, j + 1, h, ht, hd => by
    simp only [List.cons_append, DataW.weightsEach, List.all_append, Bool.and_eq_true] at h
    exact weights_at h.2 (by simpa using ht) (by simpa using hd)
  | [], _, _, _, ht, _ => by simp at ht
  | _ :: _, [], _, _, _, hd => by simp at hd

/-- A slice of numbers in a cell. -/
theorem is_of_cells {H : Type} {enc : TypeId × Value → H} {W : World} {v : Value} {fuel : Nat} {x : DataW H × List MemPlace}
    (h : DataW.trod enc Tryd.prog W 0 (fun _ => true) true fuel 22 [v] = some x) (hw : ∀ k ∈ x.1.weights Tryd.prog 22, k ≤ 140737488351232) : ∃ xo xn xc xs, v = .slice xo xn xc ∧ Is W xo xn xs ∧ xn ≤ 140737488351232 := by
  rcases open_ints Tryd.underlying22 Tryd.underlying3 (by kernel_rfl) h with ⟨hcs, _⟩ | ⟨a, len, cap, zs, hcs, _, hl, hm, hz, rfl, hcell, _⟩
  · obtain rfl : v = .slice none 0 0 := by simpa using hcs
    exact ⟨none, 0, 0, [], rfl, Is.zero _ _, by omega⟩
  · obtain rfl : v = .slice (some a) len cap := by simpa using hcs
    simp only [if_true] at hz
    refine ⟨_, _, _, zs.take len, rfl, ⟨by simp; omega, Nat.le_trans hl hm, fun j u hu => ?_⟩, ?_⟩
    · have hj : j < len := by
        have := (List.getElem?_eq_some_iff.1 hu).1
        simp at this; omega
      have hc := hcell j (by omega)
      obtain ⟨b, off, spot⟩ := a
      have hspot : spot = none := by simpa [Addr.add] using World.cell?_spot (hcell 0 (by omega))
      subst hspot
      rw [Addr.add_lit] at hc
      refine ⟨b, off, rfl, ?_⟩
      rw [hc]
      have hzj : zs[j]? = some zs[j] := List.getElem?_eq_getElem (by omega)
      simp [List.getElem?_map, hj, hzj, List.getD_eq_getElem?_getD] at hu ⊢
      exact hu
    · simp only [DataW.weights, Tryd.underlying22, List.mem_cons] at hw
      have := hw _ (.inl rfl)
      simp only [lits, List.length_map, List.length_take, List.length_drop, show Tryd.prog.bytesOf 3 = 8 by kernel_rfl] at this
      omega

/-- A slice of lines in a cell. -/
theorem lns_of_cells {H : Type} {enc : TypeId × Value → H} {W : World} {v : Value} {fuel : Nat} {x : DataW H × List MemPlace}
    (h : DataW.trod enc Tryd.prog W 0 (fun _ => true) true fuel 24 [v] = some x) (hw : ∀ k ∈ x.1.weights Tryd.prog 24, k ≤ 140737488351232) : ∃ a0 len cap ls, v = .slice a0 len cap ∧ Lns W a0 len ls := by
  rcases open_slice_pairs Tryd.underlying24 Tryd.underlying43 (by kernel_rfl) rfl rfl (by kernel_rfl) (by kernel_rfl) h with ⟨hcs, _⟩ | ⟨a, len, cap, m, n, V0, V1, D0, D1, P0, P1, hcs, _, hl, hm, hme, hx, hi⟩
  · obtain rfl : v = .slice none 0 0 := by simpa using hcs
    exact ⟨_, _, _, [], rfl, rfl, Nat.zero_le _, fun j hj => absurd hj (by simp)⟩
  · obtain rfl : v = .slice (some a) len cap := by simpa using hcs
    have hml : len ≤ m := by rw [hme]; simp; exact hl
    obtain rfl : x = _ := hx
    simp only [DataW.weights, Tryd.underlying24, List.mem_cons, List.mem_append] at hw
    have hlen : len ≤ 140737488351232 := by
      have := hw _ (.inl rfl)
      simp only [List.length_map, List.length_range, show Tryd.prog.bytesOf 43 = 32 by kernel_rfl] at this
      omega
    have hall : ∀ j, j < len → ∃ q : Ln, ∃ b off xo xn xc, some a = some ⟨b, off, none⟩ ∧ W.cell? ⟨b, off + j * 2, none⟩ = some (iv q.1) ∧ W.cell? ⟨b, off + j * 2 + 1, none⟩ = some (.slice xo xn xc) ∧ Is W xo xn q.2 ∧ xn ≤ 140737488351232 := by
      intro j hj
      obtain ⟨h1, h2, h3, h4⟩ := hi j (by omega)
      obtain ⟨b, off, spot⟩ := a
      have hspot : spot = none := by
        simpa [Addr.add] using World.cell?_spot (hi 0 (by omega)).1
      subst hspot
      rw [Addr.add_lit] at h1 h2
      obtain ⟨xo, xn, xc, xs, hv1, hB, hxn⟩ := is_of_cells h4 (fun k hk => hw k (.inr (.inl (weights_of_mem (d := .agg [D0 j, D1 j]) (List.mem_map.2 ⟨j, List.mem_range.2 hj, rfl⟩) (by
        simp only [DataW.weights, Tryd.underlying43, List.map_cons, List.map_nil, DataW.weightsEach, List.mem_append]
        exact .inr (.inl hk))))))
      obtain ⟨z, hz, _⟩ := DataW.trod_int Tryd.underlying3 h3
      exact ⟨(z, xs), b, off, xo, xn, xc, rfl, by rw [h1]; simpa using hz, by rw [← hv1, ← h2, Nat.add_assoc], hB, hxn⟩
    obtain ⟨f, hf⟩ := choose_lt hall
    refine ⟨_, _, _, (List.range len).map f, rfl, by simp, hlen, fun j hj => ?_⟩
    have hj' : j < len := by simpa using hj
    simpa using hf j hj'

set_option maxRecDepth 100000 in
/-- A pattern among the arguments. -/
theorem pat_of_trod {H : Type} {enc : TypeId × Value → H} {W : World} {v : Value} {d : DataW H} {p : List MemPlace} {r : Reach} {base : Nat} (hv : Value.okWide Tryd.prog W r base 26 v)
    (h : DataW.Trod enc Tryd.prog W 0 (fun _ => true) true 26 v d p) (hw : ∀ k ∈ d.weights Tryd.prog 26, k ≤ 140737488351232) :
    ∃ nm a0 n0 c0 a1 n1 c1 al nl cl b0 b1 ls, v = .agg #[.string nm, .slice a0 n0 c0, .slice a1 n1 c1, .slice al nl cl] ∧ nm.size ≤ maxLen ∧ Is W a0 n0 b0 ∧ Is W a1 n1 b1 ∧ Lns W al nl ls ∧ n0 ≤ 140737488351232 ∧ n1 ≤ 140737488351232 := by
  obtain ⟨cs, hvc, hsz⟩ := okWide_struct (P := Tryd.prog) (w := W) (r := r) (base := base) (t := 26) (v := v) Tryd.underlying26 hv
  subst hvc
  have h26 : Tryd.prog.cellsOf 26 = 4 := by kernel_rfl
  rw [h26] at hsz
  obtain ⟨fuel, hf⟩ := h
  obtain ⟨l⟩ := cs
  simp at hsz
  obtain ⟨v0, v1, v2, v3, rfl⟩ : ∃ v0 v1 v2 v3, l = [v0, v1, v2, v3] := by
    match l, hsz with
    | [v0, v1, v2, v3], _ => exact ⟨_, _, _, _, rfl⟩
  simp only [Value.cells] at hf
  obtain ⟨xs, n, rfl, hx, _, hxl, hi⟩ := DataW.trod_struct Tryd.underlying26 hf
  obtain ⟨x0, x1, x2, rfl⟩ : ∃ x0 x1 x2, xs = [x0, x1, x2] := by
    match xs, hxl with
    | [x0, x1, x2], _ => exact ⟨_, _, _, rfl⟩
  have f0 := hi 0 { name := "Name", type := 9, offset := 0, embedded := false, tag := "", pkgPath := "", byteOffset := 0 } rfl
  have f1 := hi 1 { name := "Before", type := 23, offset := 1, embedded := false, tag := "", pkgPath := "", byteOffset := 16 } rfl
  have f2 := hi 2 { name := "Lines", type := 24, offset := 3, embedded := false, tag := "", pkgPath := "", byteOffset := 64 } rfl
  simp only [show Tryd.prog.cellsOf 9 = 1 by kernel_rfl, show Tryd.prog.cellsOf 23 = 2 by kernel_rfl, show Tryd.prog.cellsOf 24 = 1 by kernel_rfl, List.drop, List.take, List.getElem?_cons_zero, List.getElem?_cons_succ] at f0 f1 f2
  obtain rfl : d = _ := (Prod.mk.inj hx).1
  simp only [DataW.weights, Tryd.underlying26, List.map_cons, List.map_nil, DataW.weightsEach, List.mem_append] at hw
  obtain ⟨s, hs, _, hsm⟩ := DataW.trod_string Tryd.underlying9 f0
  obtain rfl : v0 = .string s := by simpa using hs
  obtain ⟨a0, n0, c0', ls, rfl, hls⟩ := lns_of_cells f2 (fun k hk => hw k (.inr (.inr (.inl hk))))
  obtain ⟨ys, m, rfl, hy, _, hyl, hj⟩ := DataW.trod_array Tryd.underlying23 f1
  obtain ⟨y0, y1, rfl⟩ : ∃ y0 y1, ys = [y0, y1] := by
    match ys, hyl with
    | [y0, y1], _ => exact ⟨_, _, rfl⟩
  have g0 := hj 0 (by decide)
  have g1 := hj 1 (by decide)
  simp only [show Tryd.prog.cellsOf 22 = 1 by kernel_rfl, List.drop, List.getElem?_cons_zero, List.getElem?_cons_succ, Nat.zero_mul, Nat.one_mul] at g0 g1
  obtain rfl : x1 = _ := hy
  simp only [DataW.weights, Tryd.underlying23, List.map_cons, List.map_nil, DataW.weightsAll, List.mem_append] at hw
  obtain ⟨p0, q0, r0, b0, rfl, hb0, hq0⟩ := is_of_cells g0 (fun k hk => hw k (.inr (.inl (.inl hk))))
  obtain ⟨p1, q1, r1, b1, rfl, hb1, hq1⟩ := is_of_cells g1 (fun k hk => hw k (.inr (.inl (.inr (.inl hk)))))
  exact ⟨s, p0, q0, r0, p1, q1, r1, a0, n0, c0', b0, b1, ls, rfl, hsm, hb0, hb1, hls, hq0, hq1⟩
end Go.Proofs.YtjbjgpcldcpjmaaDoor

namespace Go.Proofs.YtjbjgpcldcpjmaaDoor
open Go.ChangeShapes Go.WideShapes Go.RowKit

theorem trodAll_stays {H : Type} {enc : TypeId × Value → H} {P : Program} (hl : laidOutB P = true) {W W' : World} (hb : Kp W W') : ∀ {ts : List TypeId} {vs : List Value} {ds : List (DataW H)} {ps : List MemPlace},
    (∀ t ∈ ts, P.readableRec t = true ∧ t < P.types.size) → DataW.TrodAll enc P W 0 (fun _ => true) true ts vs ds ps → (∀ x ∈ ps, x.block < W.heap.size) →
    DataW.TrodAll enc P W' 0 (fun b => decide (b < W.heap.size)) true ts vs ds ps
  | [], [], [], _, _, h, _ => h
  | t :: ts, v :: vs, d :: ds, ps, ht, h, hlt => by
    obtain ⟨p, q, h1, h2, rfl⟩ := h
    have h3 := ht t (by simp)
    exact ⟨p, q, Below.trod hl h3.1 h3.2 h1 hb (fun x hx => hlt x (by simp [hx])), trodAll_stays hl hb (fun t' ht' => ht t' (by simp [ht'])) h2 (fun x hx => hlt x (by simp [hx])), rfl⟩
  | [], [], _ :: _, _, _, h, _ => h.elim
  | [], _ :: _, _, _, _, h, _ => by cases h
  | _ :: _, [], _, _, _, h, _ => by cases h
  | _ :: _, _ :: _, [], _, _, h, _ => by cases h

theorem law_post {H : Type} {enc : TypeId × Value → H} {P : Program} {fn : Func} {s : ChangeSpec} {W W' : World} {args : Array Value} {ds gs : List (DataW H)} {before : List MemPlace} {bt : TypeId}
    (hl : laidOutB P = true) (htb : (fn.params.toList.all fun t => P.readableRec t && decide (t < P.types.size)) = true) (hv : s.vars = []) (hres : fn.resultTypes = #[bt]) (hbt : P.underlying bt = some .bool)
    (hW : DataW.Whole enc P fn.params.toList s.vars false W args.toList ds gs before) (hs : s.fn H (ds ++ []) = { results := [.lit (.bool true)], args := ds }) (hk : Kp W W') :
    s.post enc P fn false true false false W args (.bool true) W' := by
  have hts : ∀ t ∈ fn.params.toList, P.readableRec t = true ∧ t < P.types.size := fun t ht => by
    have := List.all_eq_true.1 htb t ht
    simpa using this
  have hW0 := hW
  obtain ⟨p, q, hA, hV, rfl, hfz, _⟩ := hW
  rw [hv] at hV
  obtain ⟨rfl, rfl⟩ := trodVars_none hV
  have hlt : ∀ x ∈ p, x.block < W.heap.size := hA.lt
  refine ⟨ds, [], p ++ [], [], p, [], hW0, ?_, ?_, ?_, hk.frame _, fun h => by cases h⟩
  · rw [hs, hres]
    exact trodAll_mk1 (shut_bool hbt true)
  · rw [hs]
    exact trodAll_stays hl hk hts hA hlt
  · rw [hs, hv]; rfl

theorem Tryd.own : ownKnob Tryd.prog.godebug = none := by kernel_rfl
theorem Tryd.laidOut : laidOutB Tryd.prog = true := by kernel_rfl
theorem cells125 : Tryd.prog.cellsOf 149 = 1 := by kernel_rfl
theorem cells9 : Tryd.prog.cellsOf 9 = 1 := by kernel_rfl
theorem star : "*" ++ "errors.errorString" = "*errors.errorString" := by decide
theorem row107 (u : TypeId) (h : Tryd.prog.typeName? 3 u = some "*errors.errorString") : u = 134 :=
  typeName_ptr_named (nm := "errors.errorString") (by rw [star]; kernel_rfl) (by kernel_rfl) (by decide) u (by rw [star]; exact h)

end Go.Proofs.YtjbjgpcldcpjmaaDoor

namespace Go.Proofs.YtjbjgpcldcpjmaaDoor
open Go.ChangeShapes Go.WideShapes Go.RowKit

/-- The errors, by their numbers; each lies in a block of its own kind, no two in one place. -/
structure ErrsX (w : World) (E : Nat → Addr) : Prop where
  errs : Errs w E
  c0 : w.cell? ⟨0, 0, none⟩ = some (.iface 134 (.pointer (some (E 1))))
  c5 : w.cell? ⟨5, 0, none⟩ = some (.iface 134 (.pointer (some (E 3))))
  b1 : ∃ cs t, w.heap[(E 1).block]? = some (.cells cs t (0, 0))
  b9 : ∃ cs t, w.heap[(E 9).block]? = some (.cells cs t (0, 0))
  b10 : ∃ cs t, w.heap[(E 10).block]? = some (.cells cs t (0, 0))
  b11 : ∃ cs t, w.heap[(E 11).block]? = some (.cells cs t (0, 0))
  b12 : ∃ cs t, w.heap[(E 12).block]? = some (.cells cs t (0, 0))
  n1_9 : E 9 ≠ E 1
  n1_10 : E 10 ≠ E 1
  n1_11 : E 11 ≠ E 1
  n1_12 : E 12 ≠ E 1
  n9_10 : E 10 ≠ E 9
  n9_11 : E 11 ≠ E 9
  n9_12 : E 12 ≠ E 9
  n10_11 : E 11 ≠ E 10
  n10_12 : E 12 ≠ E 10
  n11_12 : E 12 ≠ E 11
theorem blk_keep {w w' : World} (h : Kp w w') {b : Nat} (hb : ∃ cs t, w.heap[b]? = some (.cells cs t (0, 0))) : ∃ cs t, w'.heap[b]? = some (.cells cs t (0, 0)) := by
  obtain ⟨cs, t, e⟩ := hb
  exact ⟨cs, t, by rw [h.block b (Array.getElem?_eq_some_iff.1 e).1]; exact e⟩
theorem ErrsX.keep {w w' : World} {E : Nat → Addr} (h : ErrsX w E) (k : Kp w w') : ErrsX w' E :=
  ⟨k.errs h.errs, k.cell h.c0, k.cell h.c5, blk_keep k h.b1, blk_keep k h.b9, blk_keep k h.b10, blk_keep k h.b11, blk_keep k h.b12, h.n1_9, h.n1_10, h.n1_11, h.n1_12, h.n9_10, h.n9_11, h.n9_12, h.n10_11, h.n10_12, h.n11_12⟩
theorem eq_same (w : World) (a : Addr) : (binOp .eql 32 (.iface 134 (.pointer (some a))) (.iface 134 (.pointer (some a)))).run Tryd.prog w = .ok (.bool true) w := by
  obtain ⟨i, hi, hc⟩ := Option.map_eq_some_iff.1 (show (Tryd.prog.info? 134).map (·.comparable) = some true by kernel_rfl)
  obtain ⟨j, hj, _⟩ := Option.map_eq_some_iff.1 (show (Tryd.prog.info? 149).map (·.size) = some 1 by kernel_rfl)
  exact run_eql_iface_ptr_same w a Tryd.underlying32 Tryd.underlying134 hi hc hj
theorem eq_other (w : World) {a b : Addr} (hne : a ≠ b) (ha : ∃ cs t, w.heap[a.block]? = some (.cells cs t (0, 0))) (hb : ∃ cs t, w.heap[b.block]? = some (.cells cs t (0, 0))) : (binOp .eql 32 (.iface 134 (.pointer (some a))) (.iface 134 (.pointer (some b)))).run Tryd.prog w = .ok (.bool false) w := by
  obtain ⟨i, hi, hc⟩ := Option.map_eq_some_iff.1 (show (Tryd.prog.info? 134).map (·.comparable) = some true by kernel_rfl)
  obtain ⟨j, hj, hs⟩ := Option.map_eq_some_iff.1 (show (Tryd.prog.info? 149).map (·.size) = some 1 by kernel_rfl)
  obtain ⟨ca, ta, ea⟩ := ha
  obtain ⟨cb, tb, eb⟩ := hb
  exact run_eql_iface_ptr_other w Tryd.underlying32 Tryd.underlying134 hi hc hj (by rw [hs]; decide) hne ea eb

set_option maxHeartbeats 2000000 in
theorem code_0 (w : World) (E : Nat → Addr) (_h : ErrsX w E) : Calls Tryd.prog 12 #[errV E 0] w fun e w' => e = .returned (iv 0) ∧ w = w' := by
  unfold errV
  rw [if_pos rfl]
  go_enter Tryd.func12, Tryd.ntmps12
  go_wp2_with fail
  go_ret
  exact ⟨rfl, rfl⟩

set_option maxHeartbeats 2000000 in
theorem code_1 (w : World) (E : Nat → Addr) (h : ErrsX w E) : Calls Tryd.prog 12 #[errV E 1] w fun e w' => e = .returned (iv 1) ∧ w = w' := by
  unfold errV
  rw [if_neg (by decide)]
  have e1 := eq_same w (E 1)
  have c0 := h.c0
  obtain ⟨c2, c3, c4, c5⟩ := h.errs
  clear h c2 c3 c4 c5
  go_enter Tryd.func12, Tryd.ntmps12
  go_wp2_with fail
  go_ret
  exact ⟨rfl, rfl⟩

set_option maxHeartbeats 2000000 in
theorem code_9 (w : World) (E : Nat → Addr) (h : ErrsX w E) : Calls Tryd.prog 12 #[errV E 9] w fun e w' => e = .returned (iv 9) ∧ w = w' := by
  unfold errV
  rw [if_neg (by decide)]
  have e1 := eq_other w h.n1_9 h.b9 h.b1
  have e9 := eq_same w (E 9)
  have c0 := h.c0
  obtain ⟨c2, c3, c4, c5⟩ := h.errs
  clear h c3 c4 c5
  go_enter Tryd.func12, Tryd.ntmps12
  go_wp2_with fail
  go_ret
  exact ⟨rfl, rfl⟩

set_option maxHeartbeats 2000000 in
theorem code_10 (w : World) (E : Nat → Addr) (h : ErrsX w E) : Calls Tryd.prog 12 #[errV E 10] w fun e w' => e = .returned (iv 10) ∧ w = w' := by
  unfold errV
  rw [if_neg (by decide)]
  have e1 := eq_other w h.n1_10 h.b10 h.b1
  have e9 := eq_other w h.n9_10 h.b10 h.b9
  have e10 := eq_same w (E 10)
  have c0 := h.c0
  obtain ⟨c2, c3, c4, c5⟩ := h.errs
  clear h c4 c5
  go_enter Tryd.func12, Tryd.ntmps12
  go_wp2_with fail
  go_ret
  exact ⟨rfl, rfl⟩

set_option maxHeartbeats 2000000 in
theorem code_11 (w : World) (E : Nat → Addr) (h : ErrsX w E) : Calls Tryd.prog 12 #[errV E 11] w fun e w' => e = .returned (iv 11) ∧ w = w' := by
  unfold errV
  rw [if_neg (by decide)]
  have e1 := eq_other w h.n1_11 h.b11 h.b1
  have e9 := eq_other w h.n9_11 h.b11 h.b9
  have e10 := eq_other w h.n10_11 h.b11 h.b10
  have e11 := eq_same w (E 11)
  have c0 := h.c0
  obtain ⟨c2, c3, c4, c5⟩ := h.errs
  clear h c5
  go_enter Tryd.func12, Tryd.ntmps12
  go_wp2_with fail
  go_ret
  exact ⟨rfl, rfl⟩

set_option maxHeartbeats 2000000 in
theorem code_12 (w : World) (E : Nat → Addr) (h : ErrsX w E) : Calls Tryd.prog 12 #[errV E 12] w fun e w' => e = .returned (iv 12) ∧ w = w' := by
  unfold errV
  rw [if_neg (by decide)]
  have e1 := eq_other w h.n1_12 h.b12 h.b1
  have e9 := eq_other w h.n9_12 h.b12 h.b9
  have e10 := eq_other w h.n10_12 h.b12 h.b10
  have e11 := eq_other w h.n11_12 h.b12 h.b11
  have e12 := eq_same w (E 12)
  have c0 := h.c0
  obtain ⟨c2, c3, c4, c5⟩ := h.errs
  clear h 
  go_enter Tryd.func12, Tryd.ntmps12
  go_wp2_with fail
  go_ret
  exact ⟨rfl, rfl⟩

theorem code_any (w : World) (E : Nat → Addr) (h : ErrsX w E) (c : Nat) (hc : c = 0 ∨ c = 1 ∨ c = 9 ∨ c = 10 ∨ c = 11 ∨ c = 12) : Calls Tryd.prog 12 #[errV E c] w fun e w' => e = .returned (iv (c : Nat)) ∧ w = w' := by
  rcases hc with rfl | rfl | rfl | rfl | rfl | rfl
  · exact code_0 w E h
  · exact code_1 w E h
  · exact code_9 w E h
  · exact code_10 w E h
  · exact code_11 w E h
  · exact code_12 w E h

theorem g0 : Tryd.prog.globalNamed "pintle/api.ErrArg" = some 0 := by kernel_rfl
theorem g0t : (Tryd.prog.globals[0]?).map (·.type) = some 32 := by kernel_rfl
theorem text_ne {w : World} {a b : Addr} {s t : ByteArray} {x y : List UInt8} (ha : w.cell? a = some (.string s)) (hb : w.cell? b = some (.string t)) (hs : s.data.toList = x) (ht : t.data.toList = y) (hxy : x ≠ y) : a ≠ b := by
  rintro rfl
  rw [ha] at hb
  simp only [Option.some.injEq, Value.string.injEq] at hb
  subst hb
  exact hxy (hs.symm.trans ht)

theorem g5x : Tryd.prog.globalNamed "pintle/api.ErrText" = some 5 := by kernel_rfl
theorem g5xt : (Tryd.prog.globals[5]?).map (·.type) = some 32 := by kernel_rfl
theorem g1 : Tryd.prog.globalNamed "pintle/api.ErrInvalid" = some 1 := by kernel_rfl
theorem g1t : (Tryd.prog.globals[1]?).map (·.type) = some 32 := by kernel_rfl
theorem gTw : Tryd.prog.globalNamed "pintle/api.ErrTwice" = some 2 := by kernel_rfl
theorem gTwt : (Tryd.prog.globals[2]?).map (·.type) = some 32 := by kernel_rfl
theorem gLa : Tryd.prog.globalNamed "pintle/api.ErrLacks" = some 3 := by kernel_rfl
theorem gLat : (Tryd.prog.globals[3]?).map (·.type) = some 32 := by kernel_rfl
theorem gUn : Tryd.prog.globalNamed "pintle/api.ErrUnsafe" = some 4 := by kernel_rfl
theorem gUnt : (Tryd.prog.globals[4]?).map (·.type) = some 32 := by kernel_rfl
/-- What the row's variables give. -/
theorem errsX_of_laid {W : World} (h : laidMetH Tryd.prog [("unicode/utf8.acceptRanges", Rows.laid_unicode_utf8_acceptRanges), ("pintle/api.ErrArg", Rows.laid_pintle_api_ErrArg), ("pintle/api.ErrText", Rows.laid_pintle_api_ErrText), ("pintle/api.ErrInvalid", Rows.laid_pintle_api_ErrInvalid), ("pintle/api.ErrTwice", Rows.laid_pintle_api_ErrTwice), ("pintle/api.ErrLacks", Rows.laid_pintle_api_ErrLacks), ("pintle/api.ErrUnsafe", Rows.laid_pintle_api_ErrUnsafe), ("unicode/utf8.first", Rows.laid_unicode_utf8_first)] W) : ∃ E, ErrsX W E := by
  rw [MakeChecks.laidMetH_plain _ _ _ (by kernel_rfl)] at h
  obtain ⟨a1, a3, s1, s3, u1, u3, v1, v3, hv1, hv3, hc1, hs1, _, hc3, hs3, _, _, hb1, hb3⟩ := laid_sentinels2 (h.tail) g0 g0t g5x g5xt Tryd.underlying32 row107 Tryd.underlying134 Tryd.underlying149 rfl rfl Tryd.underlying9 cells125 cells9
  obtain ⟨a9, a10, s9, s10, u9, u10, v9, v10, hv9, hv10, hc9, hs9, _, hc10, hs10, _, _, hb9, hb10⟩ := laid_sentinels2 (h.tail.tail.tail) g1 g1t gTw gTwt Tryd.underlying32 row107 Tryd.underlying134 Tryd.underlying149 rfl rfl Tryd.underlying9 cells125 cells9
  obtain ⟨a11, a12, s11, s12, u11, u12, v11, v12, hv11, hv12, hc11, hs11, _, hc12, hs12, _, _, hb11, hb12⟩ := laid_sentinels2 (h.tail.tail.tail.tail.tail) gLa gLat gUn gUnt Tryd.underlying32 row107 Tryd.underlying134 Tryd.underlying149 rfl rfl Tryd.underlying9 cells125 cells9
  refine ⟨fun i => if i = 1 then a1 else if i = 3 then a3 else if i = 9 then a9 else if i = 10 then a10 else if i = 11 then a11 else a12, ⟨?_, ?_, ?_, ?_⟩, ?_, ?_, ⟨u1, v1, by simpa using hb1⟩, ⟨u9, v9, by simpa using hb9⟩, ⟨u10, v10, by simpa using hb10⟩, ⟨u11, v11, by simpa using hb11⟩, ⟨u12, v12, by simpa using hb12⟩, by simpa using text_ne hc9 hc1 hs9 hs1 (by decide), by simpa using text_ne hc10 hc1 hs10 hs1 (by decide), by simpa using text_ne hc11 hc1 hs11 hs1 (by decide), by simpa using text_ne hc12 hc1 hs12 hs1 (by decide), by simpa using text_ne hc10 hc9 hs10 hs9 (by decide), by simpa using text_ne hc11 hc9 hs11 hs9 (by decide), by simpa using text_ne hc12 hc9 hs12 hs9 (by decide), by simpa using text_ne hc11 hc10 hs11 hs10 (by decide), by simpa using text_ne hc12 hc10 hs12 hs10 (by decide), by simpa using text_ne hc12 hc11 hs12 hs11 (by decide)⟩
  · show W.cell? ⟨1, 0, none⟩ = _; simpa using World.var?_cell g1 hv9 0
  · show W.cell? ⟨2, 0, none⟩ = _; simpa using World.var?_cell gTw hv10 0
  · show W.cell? ⟨3, 0, none⟩ = _; simpa using World.var?_cell gLa hv11 0
  · show W.cell? ⟨4, 0, none⟩ = _; simpa using World.var?_cell gUn hv12 0
  · show W.cell? ⟨0, 0, none⟩ = _; simpa using World.var?_cell g0 hv1 0
  · show W.cell? ⟨5, 0, none⟩ = _; simpa using World.var?_cell g5x hv3 0
end Go.Proofs.YtjbjgpcldcpjmaaDoor

namespace Go.Proofs.YtjbjgpcldcpjmaaDoor
open Go.RowKit

/-- A slice's parts. -/
structure Tv where
  ao : Option Addr
  n : Nat
  c : Nat
def tvv (t : Tv) : Value := .slice t.ao t.n t.c
/-- The cells of a list of messages. -/
def lnc : List Ln → List Tv → List Value
  | l :: r, t :: s => iv l.1 :: tvv t :: lnc r s
  | _, _ => []
theorem lnc_length : ∀ {ls : List Ln} {ts : List Tv}, ts.length = ls.length → (lnc ls ts).length = ls.length * 2
  | [], [], _ => rfl
  | l :: r, t :: s, h => by
    simp only [lnc, List.length_cons] at h ⊢
    rw [lnc_length (by omega)]; omega
theorem lnc_append : ∀ {ls : List Ln} {ts : List Tv} (l : Ln) (t : Tv), ts.length = ls.length → lnc (ls ++ [l]) (ts ++ [t]) = lnc ls ts ++ [iv l.1, tvv t]
  | [], [], _, _, _ => rfl
  | l :: r, t :: s, l', t', h => by
    simp only [List.length_cons] at h
    simp only [lnc, List.cons_append]
    rw [lnc_append l' t' (by omega)]
theorem lnc_get : ∀ {ls : List Ln} {ts : List Tv} (h : ts.length = ls.length) (j : Nat) (hj : j < ls.length), (lnc ls ts)[j * 2]? = some (iv ls[j].1) ∧ (lnc ls ts)[j * 2 + 1]? = some (tvv (ts[j]'(by omega)))
  | l :: r, t :: s, h, 0, _ => ⟨rfl, rfl⟩
  | l :: r, t :: s, h, j + 1, hj => by
    simp only [List.length_cons] at h hj
    have := lnc_get (ls := r) (ts := s) (by omega) j (by omega)
    simp only [lnc, List.getElem_cons_succ]
    rw [show (j + 1) * 2 = j * 2 + 1 + 1 by omega]
    exact this

theorem Own.is {w : World} {base : Nat} {e : TypeId} {ao : Option Addr} {n cap : Nat} {xs : List Int} (h : Own w base e 1 ao n cap (xs.map iv)) : Is w ao n xs := by
  have hl := h.1
  refine ⟨by simpa using hl, ?_, h.cs⟩
  rcases h.2 with ⟨_, hn⟩ | ⟨g, cap', cur, hv, _, _, h1, h2, _⟩
  · omega
  · exact Nat.le_trans h1 h2
theorem Own.store {w : World} {base : Nat} {e : TypeId} {size : Nat} {g : Nat} {n cap : Nat} {xs : List Value} (h : Own w base e size (some ⟨g, 0, none⟩) n cap xs) (j : Nat) (u : Value) :
    Own (w.setCell ⟨g, j, none⟩ u) base e size (some ⟨g, 0, none⟩) n cap (xs.set j u) := (World.ownsRow.stored h j u).1
theorem Own.cell {w : World} {base : Nat} {e : TypeId} {size : Nat} {g : Nat} {n cap : Nat} {xs : List Value} (h : Own w base e size (some ⟨g, 0, none⟩) n cap xs) (j : Nat) (hj : j < n * size) : w.cell? ⟨g, j, none⟩ = xs[j]? := World.ownsRow.cellAt h j hj
theorem Own.free {w : World} {base : Nat} {e : TypeId} {size : Nat} {g : Nat} {n cap : Nat} {xs : List Value} (h : Own w base e size (some ⟨g, 0, none⟩) n cap xs) (j : Nat) : w.frozen? ⟨g, j, none⟩ = false := World.ownsRow.frozenAt h j

theorem getD_lt {α : Type} (l : List α) (d : α) {i : Nat} (h : i < l.length) : l.getD i d = l[i] := by simp [List.getD_eq_getElem?_getD, List.getElem?_eq_getElem h]
theorem getD_ge {α : Type} (l : List α) (d : α) {i : Nat} (h : l.length ≤ i) : l.getD i d = d := by simp [List.getD_eq_getElem?_getD, List.getElem?_eq_none h]
def nilT : Tv := ⟨none, 0, 0⟩
/-- No two rows lie in one block. -/
def Disj (rows : List Tv) : Prop := ∀ i j x, x ∈ blkL (rows.getD i nilT).ao → x ∈ blkL (rows.getD j nilT).ao → i = j
theorem Disj.upd {rows rows' : List Tv} {s k : Nat} (h : Disj rows) (hlt : ∀ i, i ≠ k → ∀ x ∈ blkL (rows.getD i nilT).ao, x < s) (heq : ∀ i, i ≠ k → rows'.getD i nilT = rows.getD i nilT)
    (hk : ∀ x ∈ blkL (rows'.getD k nilT).ao, x ∈ blkL (rows.getD k nilT).ao ∨ s ≤ x) : Disj rows' := by
  intro i j x hi hj
  by_cases h1 : i = k
  · by_cases h2 : j = k
    · rw [h1, h2]
    · subst h1
      rw [heq j h2] at hj
      rcases hk x hi with q | q
      · exact h i j x q hj
      · have := hlt j h2 x hj; omega
  · by_cases h2 : j = k
    · subst h2
      rw [heq i h1] at hi
      rcases hk x hj with q | q
      · exact h i j x hi q
      · have := hlt i h1 x hi; omega
    · rw [heq i h1] at hi
      rw [heq j h2] at hj
      exact h i j x hi hj

/-- A pattern of the call's own. -/
structure PatO (w : World) (B : Nat) (t0 t1 tl : Tv) (ts : List Tv) (b0 b1 : List Int) (ls : List Ln) : Prop where
  len : ts.length = ls.length
  o0 : Own w B 3 1 t0.ao t0.n t0.c (b0.map iv)
  o1 : Own w B 3 1 t1.ao t1.n t1.c (b1.map iv)
  ol : Own w B 43 2 tl.ao tl.n tl.c (lnc ls ts)
  ot : ∀ (j : Nat) (t : Tv) (l : Ln), ts[j]? = some t → ls[j]? = some l → Own w B 3 1 t.ao t.n t.c (l.2.map iv)
  dj : Disj (t0 :: t1 :: tl :: ts)
theorem PatO.nil (w : World) (B : Nat) : PatO w B nilT nilT nilT [] [] [] [] :=
  ⟨rfl, Own.nil _ _ _ _, Own.nil _ _ _ _, Own.nil _ _ _ _, fun j t l h => by simp at h, fun i j x hi => by
    rcases i with _ | _ | _ | i <;> simp [nilT, blkL, blk] at hi⟩
section
variable {w w' : World} {B : Nat} {t0 t1 tl : Tv} {ts : List Tv} {b0 b1 : List Int} {ls : List Ln}
theorem PatO.n0 (h : PatO w B t0 t1 tl ts b0 b1 ls) : t0.n = b0.length := by have := h.o0.1; simp at this; omega
theorem PatO.n1 (h : PatO w B t0 t1 tl ts b0 b1 ls) : t1.n = b1.length := by have := h.o1.1; simp at this; omega
theorem PatO.nl (h : PatO w B t0 t1 tl ts b0 b1 ls) : tl.n = ls.length := by have := h.ol.1; rw [lnc_length h.len] at this; omega
theorem PatO.row {i : Nat} {x : Nat} (h : PatO w B t0 t1 tl ts b0 b1 ls) (hx : x ∈ blkL ((t0 :: t1 :: tl :: ts).getD i nilT).ao) : B ≤ x ∧ x < w.heap.size := by
  rcases i with _ | _ | _ | i
  · exact h.o0.lt x (mem_blkL.1 hx)
  · exact h.o1.lt x (mem_blkL.1 hx)
  · exact h.ol.lt x (mem_blkL.1 hx)
  · simp only [List.getD_cons_succ] at hx
    by_cases hi : i < ts.length
    · have hl : i < ls.length := by rw [← h.len]; exact hi
      rw [getD_lt _ _ hi] at hx
      exact (h.ot i _ _ (List.getElem?_eq_getElem hi) (List.getElem?_eq_getElem hl)).lt x (mem_blkL.1 hx)
    · rw [getD_ge _ _ (by omega)] at hx
      simp [nilT, blkL, blk] at hx
theorem PatO.fr {X : List Nat} (h : PatO w B t0 t1 tl ts b0 b1 ls) (k : Fr X w w') (hX : ∀ x ∈ X, x < B ∨ w.heap.size ≤ x) : PatO w' B t0 t1 tl ts b0 b1 ls := by
  have hd : ∀ i, ∀ x ∈ blkL ((t0 :: t1 :: tl :: ts).getD i nilT).ao, x ∉ X := fun i x hx hq => by have := h.row hx; have := hX x hq; omega
  refine ⟨h.len, k.own h.o0 (hd 0), k.own h.o1 (hd 1), k.own h.ol (hd 2), fun j t l ht hl => k.own (h.ot j t l ht hl) (fun x hx => hd (j + 3) x ?_), h.dj⟩
  have hj := (List.getElem?_eq_some_iff.1 ht)
  obtain ⟨hj, rfl⟩ := hj
  simp only [List.getD_cons_succ]
  rw [getD_lt _ _ hj]; exact hx
theorem PatO.kp (h : PatO w B t0 t1 tl ts b0 b1 ls) (k : Kp w w') : PatO w' B t0 t1 tl ts b0 b1 ls := h.fr (Fr.of_kp k) (by simp)
theorem PatO.is0 (h : PatO w B t0 t1 tl ts b0 b1 ls) : Is w t0.ao t0.n b0 := h.o0.is
theorem PatO.is1 (h : PatO w B t0 t1 tl ts b0 b1 ls) : Is w t1.ao t1.n b1 := h.o1.is
theorem PatO.lns (h : PatO w B t0 t1 tl ts b0 b1 ls) (hn : ls.length ≤ 1000) (ht : ∀ l ∈ ls, l.2.length ≤ 1000) : Lns w tl.ao tl.n ls := by
  refine ⟨h.nl.symm, by have := h.nl; omega, fun j hj => ?_⟩
  obtain ⟨b, off, e, hc⟩ := h.ol.cs.at (j * 2) (by rw [lnc_length h.len]; omega)
  obtain ⟨g0, g1⟩ := lnc_get h.len j hj
  have hj' : j < ts.length := by rw [h.len]; exact hj
  have ho := h.ot j _ _ (List.getElem?_eq_getElem hj') (List.getElem?_eq_getElem hj)
  have h1 := ho.1
  have h2 := ht _ (List.getElem_mem hj)
  simp at h1
  exact ⟨b, off, _, _, _, e, hc _ _ g0, by have := hc _ _ g1; rwa [← Nat.add_assoc] at this, ho.is, by omega⟩

/-- One row has grown; the others are as they were. -/
theorem PatO.others {k : Nat} (h : PatO w B t0 t1 tl ts b0 b1 ls) (_f : Fr (blkL ((t0 :: t1 :: tl :: ts).getD k nilT).ao) w w') (i : Nat) (hi : i ≠ k) : ∀ x ∈ blkL ((t0 :: t1 :: tl :: ts).getD i nilT).ao, x ∉ blkL ((t0 :: t1 :: tl :: ts).getD k nilT).ao :=
  fun x hx hq => hi (h.dj i k x hx hq)
theorem PatO.app0 {ao' : Option Addr} {cap' N : Nat} (h : PatO w B t0 t1 tl ts b0 b1 ls) (t : Int) (ha : Appd w w' B 3 1 t0.ao t0.c 1 N ((b0 ++ [t]).map iv) ao' cap') : PatO w' B ⟨ao', N, cap'⟩ t1 tl ts (b0 ++ [t]) b1 ls := by
  have f := ha.fr
  have ho := fun i hi => PatO.others (k := 0) h f i hi
  refine ⟨h.len, ha.own, f.own h.o1 (ho 1 (by simp)), f.own h.ol (ho 2 (by simp)), fun j t l ht hl => f.own (h.ot j t l ht hl) (fun x hx => ho (j + 3) (by simp) x ?_), ?_⟩
  · obtain ⟨hj, rfl⟩ := (List.getElem?_eq_some_iff.1 ht)
    simp only [List.getD_cons_succ]
    rw [getD_lt _ _ hj]; exact hx
  · refine h.dj.upd (s := w.heap.size) (k := 0) (fun i _ x hx => (h.row hx).2) (fun i hi => ?_) (fun x hx => ?_)
    · rcases i with _ | i
      · exact absurd rfl hi
      · rfl
    · rcases ha.fresh x (mem_blkL.1 hx) with q | q
      · exact .inl (mem_blkL.2 q)
      · exact .inr (by omega)
theorem PatO.app1 {ao' : Option Addr} {cap' N : Nat} (h : PatO w B t0 t1 tl ts b0 b1 ls) (t : Int) (ha : Appd w w' B 3 1 t1.ao t1.c 1 N ((b1 ++ [t]).map iv) ao' cap') : PatO w' B t0 ⟨ao', N, cap'⟩ tl ts b0 (b1 ++ [t]) ls := by
  have f := ha.fr
  have ho := fun i hi => PatO.others (k := 1) h f i hi
  refine ⟨h.len, f.own h.o0 (ho 0 (by simp)), ha.own, f.own h.ol (ho 2 (by simp)), fun j t l ht hl => f.own (h.ot j t l ht hl) (fun x hx => ho (j + 3) (by simp) x ?_), ?_⟩
  · obtain ⟨hj, rfl⟩ := (List.getElem?_eq_some_iff.1 ht)
    simp only [List.getD_cons_succ]
    rw [getD_lt _ _ hj]; exact hx
  · refine h.dj.upd (s := w.heap.size) (k := 1) (fun i _ x hx => (h.row hx).2) (fun i hi => ?_) (fun x hx => ?_)
    · rcases i with _ | _ | i
      · rfl
      · exact absurd rfl hi
      · rfl
    · rcases ha.fresh x (mem_blkL.1 hx) with q | q
      · exact .inl (mem_blkL.2 q)
      · exact .inr (by omega)
/-- One message more, with no token yet. -/
theorem PatO.appl {ao' : Option Addr} {cap' N : Nat} (h : PatO w B t0 t1 tl ts b0 b1 ls) (f : Int) (ha : Appd w w' B 43 2 tl.ao tl.c 1 N (lnc (ls ++ [(f, [])]) (ts ++ [nilT])) ao' cap') : PatO w' B t0 t1 ⟨ao', N, cap'⟩ (ts ++ [nilT]) b0 b1 (ls ++ [(f, [])]) := by
  have fr := ha.fr
  have ho := fun i hi => PatO.others (k := 2) h fr i hi
  refine ⟨by simp [h.len], fr.own h.o0 (ho 0 (by simp)), fr.own h.o1 (ho 1 (by simp)), ha.own, fun j t l ht hl => ?_, ?_⟩
  · rcases Nat.lt_or_ge j ts.length with hj | hj
    · rw [List.getElem?_append_left hj] at ht
      rw [List.getElem?_append_left (by rw [← h.len]; exact hj)] at hl
      refine fr.own (h.ot j t l ht hl) (fun x hx => ho (j + 3) (by simp) x ?_)
      obtain ⟨hj, rfl⟩ := (List.getElem?_eq_some_iff.1 ht)
      simp only [List.getD_cons_succ]
      rw [getD_lt _ _ hj]; exact hx
    · rw [List.getElem?_append_right hj] at ht
      rw [List.getElem?_append_right (by rw [← h.len]; exact hj)] at hl
      have e1 := List.mem_of_getElem? ht
      have e2 := List.mem_of_getElem? hl
      simp at e1 e2
      subst e1; subst e2
      exact Own.nil _ _ _ _
  · refine h.dj.upd (s := w.heap.size) (k := 2) (fun i _ x hx => (h.row hx).2) (fun i hi => ?_) (fun x hx => ?_)
    · rcases i with _ | _ | _ | i
      · rfl
      · rfl
      · exact absurd rfl hi
      · simp only [List.getD_cons_succ]
        rw [List.getD_eq_getElem?_getD, List.getD_eq_getElem?_getD]
        rcases Nat.lt_or_ge i ts.length with hj | hj
        · rw [List.getElem?_append_left hj]
        · rw [List.getElem?_append_right hj, List.getElem?_eq_none hj]
          rcases Nat.eq_zero_or_pos (i - ts.length) with h0 | h0
          · rw [h0]; rfl
          · rw [List.getElem?_eq_none (by simp; omega)]
    · rcases ha.fresh x (mem_blkL.1 hx) with q | q
      · exact .inl (mem_blkL.2 q)
      · exact .inr (by omega)
end

theorem lnc_last (ls : List Ln) (ts : List Tv) (f : Int) (xs ys : List Int) (t t' : Tv) (h : ts.length = ls.length) : (lnc (ls ++ [(f, xs)]) (ts ++ [t])).set (ls.length * 2 + 1) (tvv t') = lnc (ls ++ [(f, ys)]) (ts ++ [t']) := by
  rw [lnc_append _ _ h, lnc_append _ _ h, List.set_append_right _ _ (by rw [lnc_length h]; omega), lnc_length h, show ls.length * 2 + 1 - ls.length * 2 = 1 by omega]
  rfl
/-- A token more in the last message: its list has grown, and then its place among the messages. -/
theorem PatO.appt {w w' : World} {B : Nat} {t0 t1 : Tv} {ts : List Tv} {b0 b1 : List Int} {ls : List Ln} {g nl cl : Nat} {t : Tv} {f : Int} {xs : List Int} {ao' : Option Addr} {cap' N : Nat}
    (h : PatO w B t0 t1 ⟨some ⟨g, 0, none⟩, nl, cl⟩ (ts ++ [t]) b0 b1 (ls ++ [(f, xs)])) (x : Int) (ha : Appd w w' B 3 1 t.ao t.c 1 N ((xs ++ [x]).map iv) ao' cap') :
    PatO (w'.setCell ⟨g, ls.length * 2 + 1, none⟩ (tvv ⟨ao', N, cap'⟩)) B t0 t1 ⟨some ⟨g, 0, none⟩, nl, cl⟩ (ts ++ [⟨ao', N, cap'⟩]) b0 b1 (ls ++ [(f, xs ++ [x])]) := by
  have hlen : ts.length = ls.length := by have := h.len; simp at this; exact this
  have fr := ha.fr
  have hkey : ((t0 :: t1 :: ⟨some ⟨g, 0, none⟩, nl, cl⟩ :: (ts ++ [t])).getD (ts.length + 3) nilT) = t := by
    simp
  have ho := fun i hi => PatO.others (k := ts.length + 3) (w' := w') h (by rw [hkey]; exact fr) i hi
  rw [hkey] at ho
  have hs := Fr.set w' ⟨g, ls.length * 2 + 1, none⟩ (tvv ⟨ao', N, cap'⟩)
  have hgB := (h.row (i := 2) (x := g) (by simp [blkL, blk]))
  have hg0 : ∀ i, i ≠ 2 → ∀ y ∈ blkL ((t0 :: t1 :: ⟨some ⟨g, 0, none⟩, nl, cl⟩ :: (ts ++ [t])).getD i nilT).ao, y ∉ [g] := fun i hi y hy hq => by
    simp only [List.mem_singleton] at hq
    exact hi (h.dj i 2 y hy (by subst hq; simp [blkL, blk]))
  have hgn : ∀ y ∈ blkL ao', y ∉ [g] := fun y hy hq => by
    simp only [List.mem_singleton] at hq
    subst hq
    rcases ha.fresh y (mem_blkL.1 hy) with q | q
    · exact hg0 (ts.length + 3) (by omega) y (by rw [hkey]; exact mem_blkL.2 q) (by simp)
    · omega
  refine ⟨by simp [hlen], hs.own (fr.own h.o0 (ho 0 (by simp))) (hg0 0 (by simp)), hs.own (fr.own h.o1 (ho 1 (by simp))) (hg0 1 (by simp)), ?_, fun j t' l' ht hl => ?_, ?_⟩
  · have := (fr.own h.ol (ho 2 (by simp))).store (ls.length * 2 + 1) (tvv ⟨ao', N, cap'⟩)
    rwa [lnc_last ls ts f xs (xs ++ [x]) t ⟨ao', N, cap'⟩ hlen] at this
  · rcases Nat.lt_or_ge j ts.length with hj | hj
    · rw [List.getElem?_append_left hj] at ht
      rw [List.getElem?_append_left (by rw [← hlen]; exact hj)] at hl
      have hb : ∀ y ∈ blkL t'.ao, y ∈ blkL ((t0 :: t1 :: ⟨some ⟨g, 0, none⟩, nl, cl⟩ :: (ts ++ [t])).getD (j + 3) nilT).ao := fun y hy => by
        obtain ⟨hj', rfl⟩ := (List.getElem?_eq_some_iff.1 ht)
        simp only [List.getD_cons_succ]
        rw [getD_lt _ _ (by simp; omega), List.getElem_append_left hj']; exact hy
      refine hs.own (fr.own (h.ot j t' l' (by rw [List.getElem?_append_left hj]; exact ht) (by rw [List.getElem?_append_left (by rw [← hlen]; exact hj)]; exact hl)) (fun y hy => ho (j + 3) (by omega) y (hb y hy))) (fun y hy => hg0 (j + 3) (by omega) y (hb y hy))
    · rw [List.getElem?_append_right hj] at ht
      rw [List.getElem?_append_right (by rw [← hlen]; exact hj)] at hl
      have e1 := List.mem_of_getElem? ht
      have e2 := List.mem_of_getElem? hl
      simp only [List.mem_singleton] at e1 e2
      subst e1; subst e2
      exact hs.own ha.own hgn
  · refine h.dj.upd (s := w.heap.size) (k := ts.length + 3) (fun i _ y hy => (h.row hy).2) (fun i hi => ?_) (fun y hy => ?_)
    · rcases i with _ | _ | _ | i
      · rfl
      · rfl
      · rfl
      · simp only [List.getD_cons_succ]
        rw [List.getD_eq_getElem?_getD, List.getD_eq_getElem?_getD]
        rcases Nat.lt_or_ge i ts.length with hj | hj
        · rw [List.getElem?_append_left hj, List.getElem?_append_left hj]
        · rw [List.getElem?_eq_none (by simp; omega), List.getElem?_eq_none (by simp; omega)]
    · rw [hkey]
      simp at hy
      rcases ha.fresh y (mem_blkL.1 hy) with q | q
      · exact .inl (mem_blkL.2 q)
      · exact .inr (by omega)
end Go.Proofs.YtjbjgpcldcpjmaaDoor

namespace Go.Proofs.YtjbjgpcldcpjmaaDoor
open Go.RowKit

abbrev Gr := Q.Gr
def grc (g : Gr) : List Value := [iv g.frm, iv g.src, iv g.dst]
def grv (g : Gr) : Value := .agg #[iv g.frm, iv g.src, iv g.dst]
theorem grc_length (gs : List Gr) : (gs.flatMap grc).length = gs.length * 3 := by
  induction gs with
  | nil => rfl
  | cons g r ih => rw [List.flatMap_cons, List.length_append, ih, List.length_cons]; simp only [grc, List.length_cons, List.length_nil]; omega
theorem grc_one (gs : List Gr) : ∀ u ∈ gs.flatMap grc, u.oneCell' = true := by
  intro u hu
  obtain ⟨m, _, hm⟩ := List.mem_flatMap.1 hu
  simp only [grc, List.mem_cons, List.not_mem_nil, or_false] at hm
  rcases hm with rfl | rfl | rfl <;> rfl
theorem el30 : El Tryd.prog 30 48 (.agg #[iv 0, iv 0, iv 0]) 3 24 := ⟨Tryd.underlying30, by kernel_rfl, rfl, by decide, by decide⟩
/-- A slice value's parts read a list of grades. -/
def Grs (w : World) (ao : Option Addr) (n : Nat) (gs : List Gr) : Prop := gs.length = n ∧ n ≤ maxLen ∧ Cs w ao (gs.flatMap grc)
/-- A row of grades of the call's own, all its blocks from B on. -/
def GrO (w : World) (B : Nat) (ao : Option Addr) (n cap : Nat) (gs : List Gr) : Prop := Own w B 48 3 ao n cap (gs.flatMap grc) ∧ gs.length = n
theorem GrO.nil (w : World) (B : Nat) : GrO w B none 0 0 [] := ⟨Own.nil _ _ _ _, rfl⟩
theorem GrO.grs {w : World} {B : Nat} {ao : Option Addr} {n cap : Nat} {gs : List Gr} (h : GrO w B ao n cap gs) : Grs w ao n gs := by
  refine ⟨h.2, ?_, h.1.cs⟩
  rcases h.1.2 with ⟨_, hn⟩ | ⟨g, cap', cur, hv, _, _, h1, h2, _⟩
  · omega
  · exact Nat.le_trans h1 h2
theorem GrO.keep {w w' : World} {B : Nat} {ao : Option Addr} {n cap : Nat} {gs : List Gr} (h : GrO w B ao n cap gs) (k : Kp w w') : GrO w' B ao n cap gs := ⟨h.1.keep k, h.2⟩
theorem GrO.fr {X : List Nat} {w w' : World} {B : Nat} {ao : Option Addr} {n cap : Nat} {gs : List Gr} (h : GrO w B ao n cap gs) (k : Fr X w w') (hX : ∀ j ∈ blkL ao, j ∉ X) : GrO w' B ao n cap gs := ⟨k.own h.1 hX, h.2⟩
theorem GrO.lt {w : World} {B : Nat} {ao : Option Addr} {n cap : Nat} {gs : List Gr} (h : GrO w B ao n cap gs) : ∀ j ∈ blkL ao, B ≤ j ∧ j < w.heap.size := fun j hj => h.1.lt j (mem_blkL.1 hj)
theorem Kp.grs {w w' : World} (h : Kp w w') {ao : Option Addr} {n : Nat} {gs : List Gr} (hx : Grs w ao n gs) : Grs w' ao n gs := ⟨hx.1, hx.2.1, h.cs hx.2.2⟩
theorem Grs.at {w : World} {ao : Option Addr} {n : Nat} {gs : List Gr} (h : Grs w ao n gs) (k : Nat) (hk : k < n) :
    ∃ b off, ao = some ⟨b, off, none⟩ ∧ b < w.heap.size ∧ ∀ j, (hj : j < gs.length) → w.cell? ⟨b, off + j * 3, none⟩ = some (iv gs[j].frm) ∧ w.cell? ⟨b, off + j * 3 + 1, none⟩ = some (iv gs[j].src) ∧ w.cell? ⟨b, off + j * 3 + 2, none⟩ = some (iv gs[j].dst) := by
  obtain ⟨h1, _, h2⟩ := h
  obtain ⟨b, off, rfl, hc⟩ := h2.at (k * 3) (by rw [grc_length]; omega)
  have hg : ∀ (gs : List Gr) (j i : Nat) (hj : j < gs.length) (hi : i < 3), (gs.flatMap grc)[j * 3 + i]? = (grc gs[j])[i]? := by
    intro gs
    induction gs with
    | nil => intro j i hj; simp at hj
    | cons g r ih =>
      intro j i hj hi
      rcases j with _ | j
      · simp only [List.flatMap_cons, Nat.zero_mul, Nat.zero_add, List.getElem_cons_zero]
        rw [List.getElem?_append_left (by simp [grc]; omega)]
      · simp only [List.flatMap_cons, List.getElem_cons_succ]
        rw [List.getElem?_append_right (by simp [grc]; omega)]
        have := ih j i (by simpa using hj) hi
        rw [← this]
        congr 1
        simp only [grc, List.length_cons, List.length_nil]; omega
  have hall : ∀ j, (hj : j < gs.length) → w.cell? ⟨b, off + j * 3, none⟩ = some (iv gs[j].frm) ∧ w.cell? ⟨b, off + j * 3 + 1, none⟩ = some (iv gs[j].src) ∧ w.cell? ⟨b, off + j * 3 + 2, none⟩ = some (iv gs[j].dst) := fun j hj => by
    refine ⟨hc (j * 3) _ ((hg gs j 0 hj (by omega)).trans rfl), ?_, ?_⟩
    · rw [Nat.add_assoc]; exact hc (j * 3 + 1) _ ((hg gs j 1 hj (by omega)).trans rfl)
    · rw [Nat.add_assoc]; exact hc (j * 3 + 2) _ ((hg gs j 2 hj (by omega)).trans rfl)
  exact ⟨b, off, rfl, World.block_lt_of_cell? w _ (hall k (by omega)).1, hall⟩
/-- What an append of grades leaves. -/
structure GrA (w w' : World) (B : Nat) (ao : Option Addr) (N : Nat) (gs : List Gr) (ao' : Option Addr) (cap' : Nat) : Prop where
  own : GrO w' B ao' N cap' gs
  fr : Fr (blkL ao) w w'
  new : ∀ j ∈ blkL ao', j ∈ blkL ao ∨ w.heap.size ≤ j
/-- 'append(l, grade)', the grade in a new block. -/
theorem wpList_gr1 {w : World} {ops : Array Oper} {rest : List Oper} {o : Oper} {a : Act} {Q : Exit → Act → World → Prop} (hgd : o.guard = none) (s x : Operand)
    (ho : o.op = .call { callee := .builtin .append, args := #[s, x], argTypes := #[30, 30] }) {B : Nat} {ao : Option Addr} {n cap : Nat} {gs : List Gr} (hs : a.eval s = .slice ao n cap) (hO : GrO w B ao n cap gs) (g : Gr)
    {b : Nat} (hx : a.eval x = .slice (some ⟨b, 0, none⟩) 1 1) (hb : b = w.heap.size) (hsm : n + 1 ≤ 1000000) (hB : B ≤ w.heap.size)
    (h : ∀ ao' cap' w', GrA w w' B ao (n + 1) (gs ++ [g]) ao' cap' → wpList Tryd.prog ops Q rest (a.put o.dst (.slice ao' (n + 1) cap')) w') : wpList Tryd.prog ops Q (o :: rest) a (w.alloc (.cells #[iv g.frm, iv g.src, iv g.dst] 48)) := by
  subst hb
  have hk := Kp.new w (.cells #[iv g.frm, iv g.src, iv g.dst] 48)
  refine wpList_app hgd s x 30 ho el30 B hs (hO.keep hk).1 hx (grc g) rfl (Cs.new w [iv g.frm, iv g.src, iv g.dst] 48 (0, 0)) (by simpa using grc_one [g]) (n + 1) rfl ((gs ++ [g]).flatMap grc) (by simp) (by omega) (Nat.le_trans hB hk.size)
    fun ao' cap' w' ha => h ao' cap' w' ⟨⟨ha.own, by simp [hO.2]⟩, ((Fr.of_kp hk).mono (by simp)).trans ha.fr, fun j hj => ?_⟩
  rcases ha.fresh j (mem_blkL.1 hj) with h1 | h1
  · exact .inl (mem_blkL.2 h1)
  · exact .inr (by have := hk.size; omega)
end Go.Proofs.YtjbjgpcldcpjmaaDoor

namespace Go.Proofs.YtjbjgpcldcpjmaaDoor
open Go.RowKit

/-- Not more than is looked at. -/
def ShortP (n0 n1 nl : Nat) (ls : List Ln) : Prop := n0 ≤ 200 ∧ n1 ≤ 200 ∧ nl ≤ 200 ∧ ∀ l ∈ ls, l.2.length ≤ 200
def LongPost (w : World) (n0 n1 nl : Nat) (ls : List Ln) (e : Ending) (w' : World) : Prop := ∃ b, e = .returned (.bool b) ∧ Kp w w' ∧ (b = false → ShortP n0 n1 nl ls)
set_option maxRecDepth 100000 in
set_option maxHeartbeats 2000000 in
theorem long_any (w : World) (nm : ByteArray) (a0 a1 al : Option Addr) (n0 c0 n1 c1 nl cl : Nat) (b0 b1 : List Int) (ls : List Ln) (h0 : Is w a0 n0 b0) (h1 : Is w a1 n1 b1) (hl : Lns w al nl ls) :
    Calls Tryd.prog 8 #[.agg #[.string nm, .slice a0 n0 c0, .slice a1 n1 c1, .slice al nl cl]] w (LongPost w n0 n1 nl ls) := by
  have hn0 := h0.2.1
  have hn1 := h1.2.1
  unfold maxLen at hn0 hn1
  have hnl := hl.2.1
  have Hll := Lib.hid hl.1
  have hk1 := Kp.new w (.cells #[.string nm, .slice a0 n0 c0, .slice a1 n1 c1, .slice al nl cl] 26)
  by_cases c1' : 200 < n0
  · go_enter Tryd.func8, Tryd.ntmps8
    go_wp2_with fail
    go_ret
    exact ⟨_, rfl, hk1, fun h => by cases h⟩
  · by_cases c2' : 200 < n1
    · go_enter Tryd.func8, Tryd.ntmps8
      go_wp2_with fail
      go_ret
      exact ⟨_, rfl, hk1, fun h => by cases h⟩
    · by_cases c3' : 200 < nl
      · go_enter Tryd.func8, Tryd.ntmps8
        go_wp2_with fail
        go_ret
        exact ⟨_, rfl, hk1, fun h => by cases h⟩
      · have hnew : (w.alloc (.cells #[.string nm, .slice a0 n0 c0, .slice a1 n1 c1, .slice al nl cl] 26)).cell? ⟨w.heap.size, 3, none⟩ = some (.slice al nl cl) := by rw [World.cell?_alloc_at _ _ _ _ rfl]; rfl
        go_enter Tryd.func8, Tryd.ntmps8
        go_wp2_with fail
        generalize w.alloc (.cells #[.string nm, .slice a0 n0 c0, .slice a1 n1 c1, .slice al nl cl] 26) = wb at *
        go_loopw [3] (fun i wr => ∃ k : Nat, k ≤ nl ∧ i = .int .i64 (k : Nat) ∧ wb = wr ∧ ∀ j (h : j < ls.length), j < k → ls[j].2.length ≤ 200) (fun i _ => nl - (intOf i).toNat)
        case atStart => exact ⟨0, by omega, rfl, rfl, fun j h hj => by omega⟩
        case round =>
          obtain ⟨k, hk, rfl, rfl, hsm⟩ := hrel
          have Hsm := Lib.hid hsm; clear hsm
          by_cases hlt : k < nl
          · have hkl : k < ls.length := by rw [Hll.out]; exact hlt
            obtain ⟨b, off, tp, tn, tc, rfl, hd1, hd2, hI, htn⟩ := hl.2.2 k hkl
            have hd2 := Kp.cell hk1 hd2
            have Hlen := Lib.hid hI.1
            clear hI
            by_cases hov : 200 < tn
            · go_wp2_with fail
              go_ret
              exact ⟨_, rfl, hk1, fun h => by cases h⟩
            · go_wp2_with fail
              go_roundw
              case rel =>
                refine ⟨k + 1, by omega, by go_num, trivial, fun j h hj => ?_⟩
                by_cases hjk : j < k
                · exact Hsm.out j h hjk
                · obtain rfl : j = k := by omega
                  rw [Hlen.out]; omega
              case measure => simp [intOf]; omega
          · go_wp2_with fail
            go_ret
            refine ⟨_, rfl, hk1, fun _ => ⟨by omega, by omega, by omega, fun l hl' => ?_⟩⟩
            obtain ⟨j, hj, rfl⟩ := List.getElem_of_mem hl'
            exact Hsm.out j hj (by rw [Hll.out] at hj; omega)

theorem neqG (w : World) (g h : Gr) : (binOp .neq 48 (.agg #[iv g.frm, iv g.src, iv g.dst]) (.agg #[iv h.frm, iv h.src, iv h.dst])).run Tryd.prog w = .ok (.bool (!(g == h))) w := by
  rw [neq48]
  congr 2
  obtain ⟨a, b, c⟩ := g
  obtain ⟨d, e, f⟩ := h
  rw [Bool.eq_iff_iff]
  by_cases h1 : a = d <;> by_cases h2 : b = e <;> by_cases h3 : c = f <;> simp [h1, h2, h3]
def alikeG (x y : List Gr) : Bool := x == y
set_option maxRecDepth 100000 in
set_option maxHeartbeats 2000000 in
theorem grades_any (w : World) (ao bo : Option Addr) (n m ca cb : Nat) (xs ys : List Gr) (hx : Grs w ao n xs) (hy : Grs w bo m ys) :
    Calls Tryd.prog 13 #[.slice ao n ca, .slice bo m cb] w fun e w' => e = .returned (.bool (alikeG xs ys)) ∧ Kp w w' := by
  have hn := hx.2.1
  have hm := hy.2.1
  unfold maxLen at hn hm
  have Hxl := Lib.hid hx.1
  have Hyl := Lib.hid hy.1
  by_cases hnm : n = m
  · subst hnm
    go_enter Tryd.func13, Tryd.ntmps13
    go_wp2_with fail
    obtain ⟨w0, hw0⟩ : ∃ w0 : World, w0 = w := ⟨_, rfl⟩
    go_loopw [5] (fun i wr => ∃ k : Nat, k ≤ n ∧ i = .int .i64 (k : Nat) ∧ Kp w0 wr ∧ xs.take k = ys.take k) (fun i _ => n - (intOf i).toNat)
    case atStart => exact ⟨0, by omega, rfl, hw0 ▸ Kp.refl _, rfl⟩
    case round =>
      obtain ⟨k, hk, rfl, hkw, htk⟩ := hrel
      have Htk := Lib.hid htk; clear htk
      subst hw0
      by_cases hlt : k < n
      · have hkx : k < xs.length := by rw [Hxl.out]; exact hlt
        have hky : k < ys.length := by rw [Hyl.out]; exact hlt
        obtain ⟨b, off, rfl, _, hc⟩ := hx.at k hlt
        obtain ⟨b2, off2, rfl, _, hd⟩ := hy.at k hlt
        obtain ⟨x0, x1, x2⟩ := hc k hkx
        obtain ⟨z0, z1, z2⟩ := hd k hky
        replace x0 := hkw.cell x0
        replace x1 := hkw.cell x1
        replace x2 := hkw.cell x2
        replace z0 := hkw.cell z0
        replace z1 := hkw.cell z1
        replace z2 := hkw.cell z2
        have Hs := Lib.hid (show xs.take (k + 1) = xs.take k ++ [xs[k]] ∧ ys.take (k + 1) = ys.take k ++ [ys[k]] from ⟨List.take_succ_eq_append_getElem hkx, List.take_succ_eq_append_getElem hky⟩)
        have Hd := Lib.hid (show xs[k] ≠ ys[k] → alikeG xs ys = false from fun hne => by
          unfold alikeG
          rw [beq_eq_false_iff_ne]
          intro he
          subst he
          exact hne rfl)
        clear hc hd
        generalize xs[k]'hkx = g at *
        generalize ys[k]'hky = h at *
        have hq := fun w' => neqG w' g h
        have Hkw := Lib.hid hkw
        clear hkw
        by_cases hgh : g = h
        · subst hgh
          rw [show (!(g == g)) = false by simp] at hq
          go_wp2_with fail
          go_quiet (fail)
          generalize hw4 : wr.drewN nq = w4
          have hk4 : Kp wr w4 := hw4 ▸ Kp.of_drewN wr nq
          clear hw4
          go_wp2_with fail
          go_roundw
          case rel => exact ⟨k + 1, by omega, by go_num, Kp.trans Hkw.out hk4, by rw [Hs.out.1, Hs.out.2, Htk.out]⟩
          case measure => simp [intOf]; omega
        · rw [show (!(g == h)) = true by simp [hgh]] at hq
          have Hfin := Lib.hid (Hd.out hgh)
          go_wp2_with fail
          go_quiet (fail)
          go_wp2_with fail
          go_ret
          exact ⟨by rw [Hfin.out]; rfl, Kp.trans Hkw.out (Kp.of_drewN _ _)⟩
      · have Hfin := Lib.hid (show alikeG xs ys = true by
          have := Htk.out
          rw [List.take_of_length_le (by rw [Hxl.out]; omega), List.take_of_length_le (by rw [Hyl.out]; omega)] at this
          unfold alikeG
          simp [this])
        go_wp2_with fail
        go_ret
        exact ⟨by rw [Hfin.out]; rfl, hkw⟩
  · have Hfin := Lib.hid (show alikeG xs ys = false by
      unfold alikeG
      rw [beq_eq_false_iff_ne]
      intro he
      exact hnm (by rw [← Hxl.out, ← Hyl.out, he]))
    go_enter Tryd.func13, Tryd.ntmps13
    go_wp2_with fail
    go_ret
    exact ⟨by rw [Hfin.out]; rfl, Kp.refl _⟩
end Go.Proofs.YtjbjgpcldcpjmaaDoor

namespace Go.Proofs.YtjbjgpcldcpjmaaDoor
open Go.RowKit

set_option maxHeartbeats 2000000 in
theorem exec_load3 {w : World} {p : Addr} {f : Int} (h : w.cell? p = some (iv f)) {ρ : Operand → Value} {x : Operand} (hx : ρ x = .pointer (some p)) {o : Oper} (ho : o.op = .load 3 x) : (execOp ρ o).run Tryd.prog w = .ok (.value (iv f)) w := by
  simp only [execOp, ho, hx]
  go_simp
set_option maxHeartbeats 2000000 in
theorem exec_load22 {w : World} {p : Addr} {a : Option Addr} {n c : Nat} (h : w.cell? p = some (.slice a n c)) {ρ : Operand → Value} {x : Operand} (hx : ρ x = .pointer (some p)) {o : Oper} (ho : o.op = .load 22 x) : (execOp ρ o).run Tryd.prog w = .ok (.value (.slice a n c)) w := by
  simp only [execOp, ho, hx]
  go_simp
set_option maxHeartbeats 2000000 in
theorem exec_load24 {w : World} {p : Addr} {a : Option Addr} {n c : Nat} (h : w.cell? p = some (.slice a n c)) {ρ : Operand → Value} {x : Operand} (hx : ρ x = .pointer (some p)) {o : Oper} (ho : o.op = .load 24 x) : (execOp ρ o).run Tryd.prog w = .ok (.value (.slice a n c)) w := by
  simp only [execOp, ho, hx]
  go_simp
end Go.Proofs.YtjbjgpcldcpjmaaDoor

namespace Go.Proofs.YtjbjgpcldcpjmaaDoor
open Go.RowKit

section
variable {w w' : World} {B : Nat} {t0 t1 tl : Tv} {ts : List Tv} {b0 b1 : List Int} {ls : List Ln}
/-- A whole message more, whose tokens lie in younger memory. -/
theorem PatO.appw {ao' : Option Addr} {cap' N s : Nat} {l : Ln} {t : Tv} (h : PatO w B t0 t1 tl ts b0 b1 ls) (ho : Own w B 3 1 t.ao t.n t.c (l.2.map iv))
    (hs : ∀ i, ∀ y ∈ blkL ((t0 :: t1 :: tl :: ts).getD i nilT).ao, y < s) (ht : ∀ y ∈ blkL t.ao, s ≤ y)
    (ha : Appd w w' B 43 2 tl.ao tl.c 1 N (lnc (ls ++ [l]) (ts ++ [t])) ao' cap') : PatO w' B t0 t1 ⟨ao', N, cap'⟩ (ts ++ [t]) b0 b1 (ls ++ [l]) := by
  have fr := ha.fr
  have hx := fun i hi => PatO.others (k := 2) h fr i hi
  have hn : ∀ y ∈ blkL t.ao, y ∉ blkL tl.ao := fun y hy hq => by have := ht y hy; have := hs 2 y hq; omega
  have hlt := fun y hy => ho.lt y (mem_blkL.1 hy)
  refine ⟨by simp [h.len], fr.own h.o0 (hx 0 (by simp)), fr.own h.o1 (hx 1 (by simp)), ha.own, fun j t' l' ht' hl' => ?_, ?_⟩
  · rcases Nat.lt_or_ge j ts.length with hj | hj
    · rw [List.getElem?_append_left hj] at ht'
      rw [List.getElem?_append_left (by rw [← h.len]; exact hj)] at hl'
      refine fr.own (h.ot j t' l' ht' hl') (fun x hx' => hx (j + 3) (by simp) x ?_)
      obtain ⟨hj, rfl⟩ := (List.getElem?_eq_some_iff.1 ht')
      simp only [List.getD_cons_succ]
      rw [getD_lt _ _ hj]; exact hx'
    · rw [List.getElem?_append_right hj] at ht'
      rw [List.getElem?_append_right (by rw [← h.len]; exact hj)] at hl'
      have e1 := List.mem_of_getElem? ht'
      have e2 := List.mem_of_getElem? hl'
      simp only [List.mem_singleton] at e1 e2
      subst e1; subst e2
      exact fr.own ho hn
  · have hdj : Disj (t0 :: t1 :: tl :: (ts ++ [t])) := by
      refine h.dj.upd (s := s) (k := ts.length + 3) (fun i _ => hs i) (fun i hi => ?_) (fun x hx' => ?_)
      · rcases i with _ | _ | _ | i
        · rfl
        · rfl
        · rfl
        · simp only [List.getD_cons_succ]
          rw [List.getD_eq_getElem?_getD, List.getD_eq_getElem?_getD]
          rcases Nat.lt_or_ge i ts.length with hj | hj
          · rw [List.getElem?_append_left hj]
          · rw [List.getElem?_eq_none (by simp; omega), List.getElem?_eq_none (by omega)]
      · have hkey : ((t0 :: t1 :: tl :: (ts ++ [t])).getD (ts.length + 3) nilT) = t := by simp
        rw [hkey] at hx'
        exact .inr (ht x hx')
    refine hdj.upd (s := w.heap.size) (k := 2) (fun i _ x hx' => ?_) (fun i hi => ?_) (fun x hx' => ?_)
    · rcases i with _ | _ | _ | i
      · exact (h.row (i := 0) hx').2
      · exact (h.row (i := 1) hx').2
      · exact (h.row (i := 2) hx').2
      · simp only [List.getD_cons_succ] at hx'
        rcases Nat.lt_or_ge i (ts ++ [t]).length with hj | hj
        · rw [getD_lt _ _ hj] at hx'
          rcases Nat.lt_or_ge i ts.length with hi' | hi'
          · rw [List.getElem_append_left hi'] at hx'
            exact (h.row (i := i + 3) (by simp only [List.getD_cons_succ]; rw [getD_lt _ _ hi']; exact hx')).2
          · rw [List.getElem_append_right hi'] at hx'
            simp only [List.getElem_singleton] at hx'
            exact (hlt x hx').2
        · rw [getD_ge _ _ hj] at hx'
          simp [nilT, blkL, blk] at hx'
    · rcases i with _ | _ | _ | i
      · rfl
      · rfl
      · exact absurd rfl hi
      · rfl
    · rcases ha.fresh x (mem_blkL.1 hx') with q | q
      · exact .inl (mem_blkL.2 q)
      · exact .inr (by omega)
/-- Two rows of it, apart from one another, as what is known ahead. -/
theorem PatO.pick {u0 u1 : Tv} {c0 c1 : List Int} (h : PatO w B t0 t1 tl ts b0 b1 ls) (h0 : Own w B 3 1 u0.ao u0.n u0.c (c0.map iv)) (h1 : Own w B 3 1 u1.ao u1.n u1.c (c1.map iv))
    (i j : Nat) (hij : i ≠ j) (hi : (t0 :: t1 :: tl :: ts).getD i nilT = u0) (hj : (t0 :: t1 :: tl :: ts).getD j nilT = u1) : PatO w B u0 u1 nilT [] c0 c1 [] := by
  have hab : ∀ x, x ∈ blkL u0.ao → x ∈ blkL u1.ao → False := fun x hx hy => hij (h.dj i j x (by rw [hi]; exact hx) (by rw [hj]; exact hy))
  refine ⟨rfl, h0, h1, Own.nil _ _ _ _, fun j t l ht => by simp at ht, fun p q x hp hq => ?_⟩
  rcases p with _ | _ | _ | p <;> rcases q with _ | _ | _ | q <;> first
    | rfl
    | (simp [nilT, blkL, blk] at hp; done)
    | (simp [nilT, blkL, blk] at hq; done)
    | exact (hab x hp hq).elim
    | exact (hab x hq hp).elim
end

/-- What is known ahead when these messages have been put there. -/
def selT : List Ln → List Tv → Tv × Tv → Tv × Tv
  | l :: ls, t :: ts, p => selT ls ts (if l.1 = 0 then (t, p.2) else (p.1, t))
  | _, _, p => p
theorem selT_step : ∀ {ls : List Ln} {ts : List Tv} {k : Nat} {l : Ln} {t : Tv} (p : Tv × Tv), ls[k]? = some l → ts[k]? = some t →
    selT (ls.take (k + 1)) (ts.take (k + 1)) p = if l.1 = 0 then (t, (selT (ls.take k) (ts.take k) p).2) else ((selT (ls.take k) (ts.take k) p).1, t) := by
  intro ls
  induction ls with
  | nil => intro ts k l t p h; simp at h
  | cons a r ih =>
    intro ts k l t p h h2
    cases ts with
    | nil => simp at h2
    | cons b r2 =>
      rcases k with _ | k
      · simp at h h2
        subst h; subst h2
        simp [selT]
      · simp only [List.getElem?_cons_succ] at h h2
        simp only [List.take_succ_cons, selT]
        exact ih _ h h2
theorem selT_all (ls : List Ln) (ts : List Tv) (p : Tv × Tv) (h : ts.length = ls.length) : selT (ls.take ls.length) (ts.take ls.length) p = selT ls ts p := by
  rw [List.take_length, ← h, List.take_length]
/-- The row of three dots, in memory. -/
theorem PatO.moved {w : World} {B : Nat} {t0 t1 tl : Tv} {ts : List Tv} {S : Q.Rd} (h : PatO w B t0 t1 tl ts S.b0 S.b1 S.ls) (hf : ∀ l ∈ S.ls, l.1 = 0 ∨ l.1 = 1) (hr : Q.restOk S = true) :
    PatO w B (selT S.ls ts (t0, t1)).1 (selT S.ls ts (t0, t1)).2 nilT [] (Q.moved S).b0 (Q.moved S).b1 (Q.moved S).ls := by
  obtain ⟨b0, b1, ls, rest⟩ := S
  simp only [Q.restOk, Bool.and_eq_true] at hr
  obtain ⟨_, hr⟩ := hr
  have hlen := h.len
  rcases ls with _ | ⟨a, _ | ⟨b, _ | ⟨c, r⟩⟩⟩
  · simp at hr
  · obtain ⟨t, rfl⟩ : ∃ t, ts = [t] := by
      rcases ts with _ | ⟨t, _ | ⟨u, r⟩⟩ <;> simp at hlen
      exact ⟨t, rfl⟩
    have ho := h.ot 0 t a rfl rfl
    by_cases ha : a.1 = 0
    · simp only [selT, if_pos ha, Q.moved, List.foldl_cons, List.foldl_nil]
      exact h.pick ho h.o1 3 1 (by omega) rfl rfl
    · simp only [selT, if_neg ha, Q.moved, List.foldl_cons, List.foldl_nil]
      exact h.pick h.o0 ho 0 3 (by omega) rfl rfl
  · obtain ⟨t, u, rfl⟩ : ∃ t u, ts = [t, u] := by
      rcases ts with _ | ⟨t, _ | ⟨u, _ | ⟨v, r⟩⟩⟩ <;> simp at hlen
      exact ⟨t, u, rfl⟩
    have ho := h.ot 0 t a rfl rfl
    have hp := h.ot 1 u b rfl rfl
    have hlt : a.1 < b.1 := of_decide_eq_true hr
    have h1 := hf a (by simp)
    have h2 := hf b (by simp)
    have ha : a.1 = 0 := by omega
    have hb : ¬ b.1 = 0 := by omega
    simp only [selT, if_pos ha, if_neg hb, Q.moved, List.foldl_cons, List.foldl_nil]
    exact h.pick ho hp 3 4 (by omega) rfl rfl
  · simp at hr
theorem lineP_from {s : Q.Bt} {l : Ln} (h : Q.lineP s = some l) : l.1 = 0 ∨ l.1 = 1 := by
  unfold Q.lineP at h
  split at h
  · cases hw : Q.wordsT (Lib.split (s.drop 5) Q.comma) with
    | none => rw [hw] at h; simp at h
    | some x => rw [hw] at h; simp only [Option.map_some, Option.some.injEq] at h; exact .inl (by rw [← h])
  · split at h
    · cases hw : Q.wordsT (Lib.split (s.drop 5) Q.comma) with
      | none => rw [hw] at h; simp at h
      | some x => rw [hw] at h; simp only [Option.map_some, Option.some.injEq] at h; exact .inr (by rw [← h])
    · cases h
end Go.Proofs.YtjbjgpcldcpjmaaDoor

namespace Go.Proofs.YtjbjgpcldcpjmaaDoor
open Go.RowKit

def dig (v : Int) : UInt8 := UInt8.ofNat (48 + v.toNat)
def digG (g : Gr) : List UInt8 := [if g.frm = 0 then 105 else 114, dig g.src, dig g.dst]
structure Small (g : Gr) : Prop where
  s0 : 0 ≤ g.src
  s9 : g.src ≤ 9
  d0 : 0 ≤ g.dst
  d9 : g.dst ≤ 9
theorem dig_nat {v : Int} (h0 : 0 ≤ v) (h9 : v ≤ 9) : ((dig v).toNat : Int) = 48 + v := by
  have : v.toNat ≤ 9 := by omega
  unfold dig
  rw [UInt8.toNat_ofNat', Nat.mod_eq_of_lt (by omega)]
  omega
theorem conv_one (w : World) {v : Int} (h0 : 0 ≤ v) (h9 : v ≤ 9) :
    (convert 98 9 (.slice (some ⟨w.heap.size, 0, none⟩) 1 1)).run Tryd.prog (w.alloc (.cells #[.int .u8 (48 + v)] 5)) = .ok (.string ⟨#[dig v]⟩) (w.alloc (.cells #[.int .u8 (48 + v)] 5)) := by
  refine run_convert_bytes_back (P := Tryd.prog) _ 98 9 5 ⟨w.heap.size, 0, none⟩ 1 [dig v] Tryd.underlying98 Tryd.underlying5 Tryd.underlying9 (fun j hj => ?_)
  obtain rfl : j = 0 := by simp at hj; omega
  rw [Addr.add_lit, World.cell?_alloc_at _ _ _ _ rfl]
  simp only [List.getElem_cons_zero, dig_nat h0 h9]
  rfl
set_option maxRecDepth 100000 in
set_option maxHeartbeats 4000000 in
theorem digits_any (w : World) (ao : Option Addr) (n cap : Nat) (gs : List Gr) (hg : Grs w ao n gs) (hs : ∀ g ∈ gs, Small g) (hn : n ≤ 1000) :
    Calls Tryd.prog 33 #[.slice ao n cap] w fun e w' => (∃ s : ByteArray, e = .returned (.string s) ∧ s.data.toList = gs.flatMap digG) ∧ Kp w w' := by
  have Hl := Lib.hid hg.1
  have HS := Lib.hid hs
  clear hs
  go_enter Tryd.func33, Tryd.ntmps33
  go_wp2_with fail
  obtain ⟨w0, hw0⟩ : ∃ w0 : World, w0 = w := ⟨_, rfl⟩
  go_loopw [3, 4] (fun v i wr => ∃ (k : Nat) (s : ByteArray), k ≤ n ∧ i = .int .i64 (k : Nat) ∧ v = .string s ∧ s.size = 3 * k ∧ s.data.toList = (gs.take k).flatMap digG ∧ Kp w0 wr) (fun _ i _ => n - (intOf i).toNat)
  case atStart => exact ⟨0, ⟨#[]⟩, by omega, rfl, rfl, rfl, rfl, hw0 ▸ Kp.refl _⟩
  case round =>
    obtain ⟨k, s, hk, rfl, rfl, hsz, hsd, hkr⟩ := hrel
    rename World => wr
    subst hw0
    have Hsd := Lib.hid hsd
    clear hsd
    by_cases hlt : k < n
    · have hkl : k < gs.length := by rw [Hl.out]; exact hlt
      obtain ⟨b, off, rfl, hbl, hc⟩ := hg.at k hlt
      obtain ⟨x0, x1, x2⟩ := hc k hkl
      have Hx := Lib.hid (And.intro x1 x2)
      replace x0 := hkr.cell x0
      clear x1 x2 hc
      have Hst := Lib.hid (show (gs.take (k + 1)).flatMap digG = (gs.take k).flatMap digG ++ digG gs[k] by rw [List.take_succ_eq_append_getElem hkl, List.flatMap_append]; simp)
      have hsm := HS.out _ (List.getElem_mem hkl)
      generalize gs[k]'hkl = g at x0 Hx Hst hsm
      obtain ⟨s0, s9, d0, d9⟩ := hsm
      obtain ⟨c, hcv⟩ : ∃ c : UInt8, c = if g.frm = 0 then 105 else 114 := ⟨_, rfl⟩
      have Hdg := Lib.hid (show digG g = [c, dig g.src, dig g.dst] by rw [hcv]; rfl)
      go_upto_if 19 with fail
      go_cut [5] (fun v wc => v = .string ⟨#[c]⟩ ∧ wr = wc)
      case first =>
        by_cases h0 : g.frm = 0
        · rw [if_pos h0] at hcv
          go_wp2_with fail
          go_meet
          case rel => exact ⟨by rw [hcv], rfl⟩
        · rw [if_neg h0] at hcv
          go_wp2_with fail
          go_meet
          case rel => exact ⟨by rw [hcv], rfl⟩
      case rest =>
        obtain ⟨rfl, rfl⟩ := hcut
        clear hcv x0
        have hsc : (⟨#[c]⟩ : ByteArray).size = 1 := rfl
        have hlen : s.size + 1 ≤ 9223372036854775807 := by omega
        go_upto_region 9 with fail
        obtain ⟨s1, hs1⟩ : ∃ s1, s1 = s ++ (⟨#[c]⟩ : ByteArray) := ⟨_, rfl⟩
        rw [← hs1]
        have hz1 : s1.size = 3 * k + 1 := by rw [hs1, ByteArray.size_append, hsz]; rfl
        have Hd1 := Lib.hid (show s1.data.toList = s.data.toList ++ [c] by rw [hs1]; simp)
        clear hs1 hsc hlen
        go_wp2_with fail
        go_loopw [3, 6] (fun v i wr => ∃ (q : Nat) (t : ByteArray), q ≤ 2 ∧ i = .int .i64 (q : Nat) ∧ v = .string t ∧ t.size = 3 * k + 1 + q ∧ t.data.toList = s.data.toList ++ (digG g).take (1 + q) ∧ Kp w0 wr) (fun _ i _ => 2 - (intOf i).toNat)
        case atStart => exact ⟨0, s1, by omega, rfl, rfl, by omega, by rw [Hd1.out, Hdg.out]; simp, hkr⟩
        case round =>
          obtain ⟨q, t, hq, rfl, rfl, htz, htd, hkr2⟩ := hrel
          rename World => wr2
          have Htd := Lib.hid htd
          clear htd
          have x1 := hkr2.cell Hx.out.1
          have x2 := hkr2.cell Hx.out.2
          rcases (show q = 0 ∨ q = 1 ∨ q = 2 by omega) with rfl | rfl | rfl
          · have hlen : t.size + 1 ≤ 9223372036854775807 := by omega
            have hsd : (⟨#[dig g.src]⟩ : ByteArray).size = 1 := rfl
            have hcv := fun w' => conv_one w' s0 s9
            have Hz := Lib.hid (show (t ++ (⟨#[dig g.src]⟩ : ByteArray)).size = 3 * k + 1 + 1 by rw [ByteArray.size_append, htz]; rfl)
            have Ht := Lib.hid (show (t ++ (⟨#[dig g.src]⟩ : ByteArray)).data.toList = s.data.toList ++ (digG g).take (1 + 1) by rw [ByteArray.data_append, Array.toList_append, Htd.out, Hdg.out]; simp)
            have Hk := Lib.hid (Kp.trans hkr2 (Kp.new wr2 (.cells #[.int .u8 (48 + g.src)] 5)))
            rw [show ((0 : Nat) : Int) = 0 from rfl]
            clear x2 htz hkr2
            go_wp2_with fail
            clear hcv
            go_roundw
            case rel => exact ⟨1, _, by omega, rfl, rfl, Hz.out, Ht.out, Hk.out⟩
            case measure => simp [intOf]
          · have hlen : t.size + 1 ≤ 9223372036854775807 := by omega
            have hsd : (⟨#[dig g.dst]⟩ : ByteArray).size = 1 := rfl
            have hcv := fun w' => conv_one w' d0 d9
            have Hz := Lib.hid (show (t ++ (⟨#[dig g.dst]⟩ : ByteArray)).size = 3 * k + 1 + 2 by rw [ByteArray.size_append, htz]; rfl)
            have Ht := Lib.hid (show (t ++ (⟨#[dig g.dst]⟩ : ByteArray)).data.toList = s.data.toList ++ (digG g).take (1 + 2) by rw [ByteArray.data_append, Array.toList_append, Htd.out, Hdg.out]; simp)
            have Hk := Lib.hid (Kp.trans hkr2 (Kp.new wr2 (.cells #[.int .u8 (48 + g.dst)] 5)))
            rw [show ((1 : Nat) : Int) = 1 from rfl]
            clear htz hkr2
            go_wp2_with fail
            clear hcv
            go_roundw
            case rel => exact ⟨2, _, by omega, rfl, rfl, Hz.out, Ht.out, Hk.out⟩
            case measure => simp [intOf]
          · have Hf := Lib.hid (show t.data.toList = (gs.take (k + 1)).flatMap digG by rw [Hst.out, Htd.out, Hsd.out, Hdg.out]; rfl)
            have hz3 : t.size = 3 * (k + 1) := by omega
            rw [show ((2 : Nat) : Int) = 2 from rfl]
            clear x1 x2
            go_wp2_with fail
            go_roundw
            case rel => exact ⟨k + 1, t, by omega, by go_num, rfl, hz3, Hf.out, hkr2⟩
            case measure => simp [intOf]; omega
    · obtain rfl : k = n := by omega
      have Hf := Lib.hid (show s.data.toList = gs.flatMap digG by rw [Hsd.out, List.take_of_length_le (by rw [Hl.out]; omega)])
      go_wp2_with fail
      go_ret
      exact ⟨⟨s, rfl, Hf.out⟩, hkr⟩
end Go.Proofs.YtjbjgpcldcpjmaaDoor
