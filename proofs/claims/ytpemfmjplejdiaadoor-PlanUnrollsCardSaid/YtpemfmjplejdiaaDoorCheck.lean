/- What 'Check' answers, as a number. Conditions: the pattern lies there (Is, Lns); the errors are laid (Errs). -/
import Derived.Test.YtpemfmjplejdiaaDoorShaped
namespace Go.Proofs.YtpemfmjplejdiaaDoor
open Go.RowKit

def S0 : Nat → Bool := fun _ => false
def begunL (b0 b1 : List Int) : Nat → Bool := b1.foldl (fun S t => upd S (3 + t).toNat true) (b0.foldl (fun S t => upd S t.toNat true) S0)
def runToks (S : Nat → Bool) (f : Int) : List Int → Nat × (Nat → Bool)
  | [] => (0, S)
  | t :: r => if offL S f t r.isEmpty = 0 then runToks (tookL S f t) f r else (offL S f t r.isEmpty, S)
def runLs (S : Nat → Bool) : List Ln → Nat × (Nat → Bool)
  | [] => (0, S)
  | l :: r => if (runToks S l.1 l.2).1 = 0 then runLs (runToks S l.1 l.2).2 r else runToks S l.1 l.2
def oneWay (ls : List Ln) : Bool := ls.length == 1 && (ls[0]?).map (·.1) == some 0
def endL (S : Nat → Bool) (ls : List Ln) : Nat := if !safeL S 0 || (!oneWay ls && !safeL S 1) then 12 else 0
/-- The number of the error; 0: none. -/
def checkL (b0 b1 : List Int) (ls : List Ln) : Nat :=
  if shapedL b0 b1 ls then (if (runLs (begunL b0 b1) ls).1 = 0 then endL (runLs (begunL b0 b1) ls).2 ls else (runLs (begunL b0 b1) ls).1) else 9

theorem okB_mem {l : List Int} (h : okB l = true) : ∀ j (hj : j < l.length), l[j] = 1 ∨ l[j] = 2 := by
  match l, h with
  | [], _ => intro j hj; simp at hj
  | [x], h => intro j hj; obtain rfl : j = 0 := by simpa using hj
              simpa [okB] using h
  | [x, y], h =>
    intro j hj
    simp only [okB, Bool.and_eq_true, beq_iff_eq] at h
    obtain ⟨rfl, rfl⟩ := h
    rcases (show j = 0 ∨ j = 1 by simp at hj; omega) with rfl | rfl
    · left; rfl
    · right; rfl
  | _ :: _ :: _ :: _, h => simp [okB] at h

theorem linesOk_mem {ls : List Ln} : ∀ {prev : Option Int} {n : Nat}, linesOk prev n ls = true → ∀ j (h : j < ls.length), (ls[j].1 = 0 ∨ ls[j].1 = 1) ∧ 0 < ls[j].2.length ∧ ∀ i (hi : i < ls[j].2.length), 1 ≤ ls[j].2[i] ∧ ls[j].2[i] ≤ 7 := by
  induction ls with
  | nil => intro _ _ _ j h; simp at h
  | cons l r ih =>
    intro prev n hl j h
    simp only [linesOk, Bool.and_eq_true] at hl
    obtain ⟨⟨⟨h1, h2⟩, h3⟩, h4⟩ := hl
    rcases j with _ | j
    · simp only [headOk, Bool.and_eq_true, Bool.or_eq_true, beq_iff_eq, bne_iff_ne] at h1
      refine ⟨h1.1.1, by have := h1.2; simp only [List.getElem_cons_zero]; omega, fun i hi => ?_⟩
      have := List.all_eq_true.1 h2 _ (List.getElem_mem hi)
      simpa using this
    · exact ih h4 j (by simpa using h)
theorem shapedL_mem {b0 b1 : List Int} {ls : List Ln} (h : shapedL b0 b1 ls = true) : okB b0 = true ∧ okB b1 = true ∧ 0 < ls.length ∧ ∀ j (h : j < ls.length), (ls[j].1 = 0 ∨ ls[j].1 = 1) ∧ 0 < ls[j].2.length ∧ ∀ i (hi : i < ls[j].2.length), 1 ≤ ls[j].2[i] ∧ ls[j].2[i] ≤ 7 := by
  simp only [shapedL, Bool.and_eq_true, bne_iff_ne] at h
  exact ⟨h.1.1.1, h.1.1.2, by omega, linesOk_mem h.2⟩

def foldSet (S : Nat → Bool) (d : Int) (l : List Int) : Nat → Bool := l.foldl (fun S t => upd S (d + t).toNat true) S
theorem foldSet_succ (S : Nat → Bool) (d : Int) (l : List Int) (k : Nat) (h : k < l.length) : foldSet S d (l.take (k + 1)) = upd (foldSet S d (l.take k)) (d + l[k]).toNat true := by
  unfold foldSet
  rw [take_step l k h, List.foldl_append]; rfl
theorem begunL_eq (b0 b1 : List Int) : begunL b0 b1 = foldSet (foldSet S0 0 b0) 3 b1 := by
  unfold begunL foldSet
  simp only [Int.zero_add]
theorem runToks_at (S : Nat → Bool) (f : Int) (ts : List Int) (j : Nat) (h : j < ts.length) : runToks S f (ts.drop j) = if offL S f ts[j] (j + 1 == ts.length) = 0 then runToks (tookL S f ts[j]) f (ts.drop (j + 1)) else (offL S f ts[j] (j + 1 == ts.length), S) := by
  rw [drop_cons ts j h, runToks]
  have : (ts.drop (j + 1)).isEmpty = (j + 1 == ts.length) := by
    rw [Bool.eq_iff_iff]; simp; omega
  rw [this]
theorem runLs_at (S : Nat → Bool) (ls : List Ln) (k : Nat) (h : k < ls.length) : runLs S (ls.drop k) = if (runToks S ls[k].1 ls[k].2).1 = 0 then runLs (runToks S ls[k].1 ls[k].2).2 (ls.drop (k + 1)) else runToks S ls[k].1 ls[k].2 := by
  rw [drop_cons ls k h, runLs]

theorem kp_step2 {w0 w w' : World} {b : Nat} (hk : Kp w0 w) (k : Fr [b] w w') (h : w0.heap.size < b) : Kp w0 w' := ((Fr.of_kp hk).step k (fun j hj => .inr (by simp only [List.mem_singleton] at hj; omega))).kp
theorem newWalk (w : World) : WalkAt (w.alloc (.cells #[.bool false, .bool false, .bool false, .bool false, .bool false, .bool false, .bool false, .bool false, .bool false, .bool false, .bool false, .bool false, .bool false, .bool false] 77)) w.heap.size S0 := fun j hj => by
  constructor
  · rw [World.cell?_alloc_at _ _ _ _ rfl]
    rcases (show j = 0 ∨ j = 1 ∨ j = 2 ∨ j = 3 ∨ j = 4 ∨ j = 5 ∨ j = 6 ∨ j = 7 ∨ j = 8 ∨ j = 9 ∨ j = 10 ∨ j = 11 ∨ j = 12 ∨ j = 13 by omega) with rfl | rfl | rfl | rfl | rfl | rfl | rfl | rfl | rfl | rfl | rfl | rfl | rfl | rfl <;> rfl
  · exact World.frozen?_alloc_at _ _ _ _ rfl

set_option maxRecDepth 100000 in
set_option maxHeartbeats 4000000 in
theorem check_any (w : World) (E : Nat → Addr) (hE : Errs w E) (nm : ByteArray) (a0 a1 al : Option Addr) (n0 c0 n1 c1 nl cl : Nat) (b0 b1 : List Int) (ls : List Ln) (h0 : Is w a0 n0 b0) (h1 : Is w a1 n1 b1) (hl : Lns w al nl ls) :
    Calls Tryd.prog 21 #[.agg #[.string nm, .slice a0 n0 c0, .slice a1 n1 c1, .slice al nl cl]] w fun e w' => e = .returned (errV E (checkL b0 b1 ls)) ∧ Kp w w' := by
  have hnl := hl.2.1
  have Hll := Lib.hid hl.1
  have hnew : ∀ j v, [Value.string nm, .slice a0 n0 c0, .slice a1 n1 c1, .slice al nl cl][j]? = some v → (w.alloc (.cells #[.string nm, .slice a0 n0 c0, .slice a1 n1 c1, .slice al nl cl] 26)).cell? ⟨w.heap.size, j, none⟩ = some v := by
    intro j v hv
    rw [World.cell?_alloc_at _ _ _ _ rfl]
    simpa using hv
  have Hnew := Lib.hid hnew; clear hnew
  have i0 : ∀ w, (Instr.index 23 (.agg #[.slice a0 n0 c0, .slice a1 n1 c1]) (.int .i64 0)).run Tryd.prog w = .ok (.slice a0 n0 c0) w := fun _ => by kernel_rfl
  have i1 : ∀ w, (Instr.index 23 (.agg #[.slice a0 n0 c0, .slice a1 n1 c1]) (.int .i64 1)).run Tryd.prog w = .ok (.slice a1 n1 c1) w := fun _ => by kernel_rfl
  go_enter Tryd.func21, Tryd.ntmps21
  go_wp2_with fail
  (with_reducible refine (shaped_any _ nm a0 a1 al n0 c0 n1 c1 nl cl b0 b1 ls (Kp.is (Kp.new _ _) h0) (Kp.is (Kp.new _ _) h1) (Kp.lns (Kp.new _ _) hl)).mono ?_)
  rintro e w1 ⟨rfl, hk1⟩
  have hkw := Kp.trans (Kp.new _ _) hk1
  have hE1 := Kp.errs hkw hE
  cases hs : shapedL b0 b1 ls with
  | false =>
    have HF := Lib.hid (show checkL b0 b1 ls = 9 by unfold checkL; rw [hs]; rfl)
    have e9 := hE1.1
    clear hs
    go_wp2_with fail
    go_ret
    exact ⟨by rw [HF.out]; rfl, hkw⟩
  | true =>
    obtain ⟨hb0, hb1, hl0, hmem⟩ := shapedL_mem hs
    have HF := Lib.hid (show checkL b0 b1 ls = if (runLs (begunL b0 b1) ls).1 = 0 then endL (runLs (begunL b0 b1) ls).2 ls else (runLs (begunL b0 b1) ls).1 by unfold checkL; rw [hs]; rfl)
    have y1 := fun o => Kp.cell (Kp.new w1 o) (Kp.cell hk1 (Hnew.out 1 _ rfl))
    have y2 := fun o => Kp.cell (Kp.new w1 o) (Kp.cell hk1 (Hnew.out 2 _ rfl))
    have y3 := fun o => Kp.cell (Kp.new w1 o) (Kp.cell hk1 (Hnew.out 3 _ rfl))
    have Hb0 := Lib.hid (okB_mem hb0)
    have Hb1 := Lib.hid (okB_mem hb1)
    have Hmem := Lib.hid hmem
    clear hs hb0 hb1 hmem
    go_wp2_with fail
    have hW := newWalk w1
    have hlt1 : w.heap.size < w1.heap.size := by have := hk1.size; simp at this; omega
    have hkb := Kp.trans hkw (Kp.new w1 (.cells #[.bool false, .bool false, .bool false, .bool false, .bool false, .bool false, .bool false, .bool false, .bool false, .bool false, .bool false, .bool false, .bool false, .bool false] 77))
    have y1 := y1 (.cells #[.bool false, .bool false, .bool false, .bool false, .bool false, .bool false, .bool false, .bool false, .bool false, .bool false, .bool false, .bool false, .bool false, .bool false] 77)
    have y2 := y2 (.cells #[.bool false, .bool false, .bool false, .bool false, .bool false, .bool false, .bool false, .bool false, .bool false, .bool false, .bool false, .bool false, .bool false, .bool false] 77)
    have y3 := y3 (.cells #[.bool false, .bool false, .bool false, .bool false, .bool false, .bool false, .bool false, .bool false, .bool false, .bool false, .bool false, .bool false, .bool false, .bool false] 77)
    obtain ⟨bw, hbw⟩ : ∃ x, x = w1.heap.size := ⟨_, rfl⟩
    rw [← hbw] at hW hlt1 ⊢
    clear hbw
    generalize w1.alloc (.cells #[.bool false, .bool false, .bool false, .bool false, .bool false, .bool false, .bool false, .bool false, .bool false, .bool false, .bool false, .bool false, .bool false, .bool false] 77) = wb at *
    have hfar : ∀ w', Fr [bw] wb w' → Kp w w' := fun w' h => kp_step2 hkb h hlt1
    have Hfar := Lib.hid hfar; clear hfar
    go_loopw [22] (fun i wr => ∃ k : Nat, k ≤ 2 ∧ i = .int .i64 k ∧ Fr [bw] wb wr ∧ WalkAt wr bw (if k = 0 then S0 else if k = 1 then foldSet S0 0 b0 else foldSet (foldSet S0 0 b0) 3 b1)) (fun i _ => 2 - (intOf i).toNat)
    case atStart => exact ⟨0, by omega, rfl, Fr.refl _ _, hW⟩
    case round =>
      clear hW
      obtain ⟨k, hk, rfl, hF, hW⟩ := hrel
      rcases (show k = 0 ∨ k = 1 ∨ k = 2 by omega) with rfl | rfl | rfl
      · rw [if_pos rfl] at hW
        have hI := Kp.is (Hfar.out _ hF) h0
        have hlen : b0.length = n0 := h0.1
        have hnn : n0 ≤ 9223372036854775807 := h0.2.1
        have Hlen := Lib.hid hlen; clear hlen
        have hW0 : WalkAt wr bw (foldSet S0 0 (b0.take 0)) := hW
        clear hW
        go_wp2_with fail
        obtain ⟨wo, rfl⟩ : ∃ wo : World, wo = wr := ⟨_, rfl⟩
        go_loopw [28] (fun i wr => ∃ j : Nat, j ≤ n0 ∧ i = .int .i64 j ∧ Fr [bw] wb wr ∧ WalkAt wr bw (foldSet S0 0 (b0.take j))) (fun i _ => n0 - (intOf i).toNat)
        case atStart => exact ⟨0, by omega, rfl, hF, hW0⟩
        case round =>
          clear hW0 hF hI
          obtain ⟨j, hj, rfl, hF, hW⟩ := hrel
          have hI := Kp.is (Hfar.out _ hF) h0
          by_cases hjn : j < n0
          · obtain ⟨tb, toff, rfl, _, hcc⟩ := hI.at j hjn
            have hck := hcc j hjn
            have hjl : j < b0.length := by rw [Hlen.out]; exact hjn
            have hsucc := foldSet_succ S0 0 b0 j hjl
            have hval := Hb0.out j hjl
            clear hcc
            generalize b0[j]'hjl = t at hck hsucc hval
            have Hsucc := Lib.hid hsucc; clear hsucc
            rcases hval with rfl | rfl
            · have c := (hW 1 (by omega)).1
              have z := (hW 1 (by omega)).2
              have hW2 := hW.set 1 (by omega)
              have hF2 := hF.trans (Fr.set wr ⟨bw, 1, none⟩ (.bool true))
              go_wp2_with fail
              go_roundw
              case rel => exact ⟨j + 1, by omega, by go_num, hF2, by rw [Hsucc.out]; exact hW2⟩
              case measure => simp [intOf]; omega
            · have c := (hW 2 (by omega)).1
              have z := (hW 2 (by omega)).2
              have hW2 := hW.set 2 (by omega)
              have hF2 := hF.trans (Fr.set wr ⟨bw, 2, none⟩ (.bool true))
              go_wp2_with fail
              go_roundw
              case rel => exact ⟨j + 1, by omega, by go_num, hF2, by rw [Hsucc.out]; exact hW2⟩
              case measure => simp [intOf]; omega
          · obtain rfl : n0 = j := by omega
            rw [List.take_of_length_le (by rw [Hlen.out]; exact Nat.le_refl _)] at hW
            go_wp2_with fail
            go_roundw
            case rel => exact ⟨1, by omega, rfl, hF, hW⟩
            case measure => simp [intOf]
      · rw [if_neg (by decide), if_pos rfl] at hW
        have hI := Kp.is (Hfar.out _ hF) h1
        have hlen : b1.length = n1 := h1.1
        have hnn : n1 ≤ 9223372036854775807 := h1.2.1
        have Hlen := Lib.hid hlen; clear hlen
        have hW0 : WalkAt wr bw (foldSet (foldSet S0 0 b0) 3 (b1.take 0)) := hW
        clear hW
        go_wp2_with fail
        obtain ⟨wo, rfl⟩ : ∃ wo : World, wo = wr := ⟨_, rfl⟩
        go_loopw [28] (fun i wr => ∃ j : Nat, j ≤ n1 ∧ i = .int .i64 j ∧ Fr [bw] wb wr ∧ WalkAt wr bw (foldSet (foldSet S0 0 b0) 3 (b1.take j))) (fun i _ => n1 - (intOf i).toNat)
        case atStart => exact ⟨0, by omega, rfl, hF, hW0⟩
        case round =>
          clear hW0 hF hI
          obtain ⟨j, hj, rfl, hF, hW⟩ := hrel
          have hI := Kp.is (Hfar.out _ hF) h1
          by_cases hjn : j < n1
          · obtain ⟨tb, toff, rfl, _, hcc⟩ := hI.at j hjn
            have hck := hcc j hjn
            have hjl : j < b1.length := by rw [Hlen.out]; exact hjn
            have hsucc := foldSet_succ (foldSet S0 0 b0) 3 b1 j hjl
            have hval := Hb1.out j hjl
            clear hcc
            generalize b1[j]'hjl = t at hck hsucc hval
            have Hsucc := Lib.hid hsucc; clear hsucc
            rcases hval with rfl | rfl
            · have c := (hW 4 (by omega)).1
              have z := (hW 4 (by omega)).2
              have hW2 := hW.set 4 (by omega)
              have hF2 := hF.trans (Fr.set wr ⟨bw, 4, none⟩ (.bool true))
              go_wp2_with fail
              go_roundw
              case rel => exact ⟨j + 1, by omega, by go_num, hF2, by rw [Hsucc.out]; exact hW2⟩
              case measure => simp [intOf]; omega
            · have c := (hW 5 (by omega)).1
              have z := (hW 5 (by omega)).2
              have hW2 := hW.set 5 (by omega)
              have hF2 := hF.trans (Fr.set wr ⟨bw, 5, none⟩ (.bool true))
              go_wp2_with fail
              go_roundw
              case rel => exact ⟨j + 1, by omega, by go_num, hF2, by rw [Hsucc.out]; exact hW2⟩
              case measure => simp [intOf]; omega
          · obtain rfl : n1 = j := by omega
            rw [List.take_of_length_le (by rw [Hlen.out]; exact Nat.le_refl _)] at hW
            go_wp2_with fail
            go_roundw
            case rel => exact ⟨2, by omega, rfl, hF, hW⟩
            case measure => simp [intOf]
      · rw [if_neg (by decide), if_neg (by decide)] at hW
        rw [← begunL_eq] at hW
        rw [show ((2 : Nat) : Int) = 2 from rfl]
        obtain ⟨wo, rfl⟩ : ∃ wo : World, wo = wr := ⟨_, rfl⟩
        have y3o := hF.cell y3 (by simp; omega)
        go_wp2_with fail
        go_loopw [44] (fun i wr => ∃ (k : Nat) (S : Nat → Bool), k ≤ nl ∧ i = .int .i64 k ∧ Fr [bw] wb wr ∧ WalkAt wr bw S ∧ runLs (begunL b0 b1) ls = runLs S (ls.drop k)) (fun i _ => nl - (intOf i).toNat)
        case atStart => exact ⟨0, begunL b0 b1, by omega, rfl, hF, hW, rfl⟩
        case round =>
          clear hW hF y3o
          obtain ⟨k, S, hk, rfl, hF, hW, hrun⟩ := hrel
          have Hrun := Lib.hid hrun; clear hrun
          by_cases hlt : k < nl
          · have hkl : k < ls.length := by rw [Hll.out]; exact hlt
            have hkr := Hfar.out _ hF
            obtain ⟨b, off, tp, tn, tc, rfl, hc1, hc2, hI, htn⟩ := hl.2.2 k hkl
            have hc1 := Kp.cell hkr hc1
            have hc2 := Kp.cell hkr hc2
            obtain ⟨hfm, htpos, htm⟩ := Hmem.out k hkl
            have hat := runLs_at S ls k hkl
            obtain ⟨f, ts, hft⟩ : ∃ f ts, ls[k] = (f, ts) := ⟨_, _, rfl⟩
            rw [hft] at hc1 hI hat hfm htpos htm
            have hI : Is w tp tn ts := hI
            have hc1 : wr.cell? ⟨b, off + k * 2, none⟩ = some (iv f) := hc1
            have hfm : f = 0 ∨ f = 1 := hfm
            have Htm := Lib.hid htm; clear htm
            have htl : ts.length = tn := hI.1
            have Htl := Lib.hid htl; clear htl
            have htpos : 0 < tn := by rw [← Htl.out]; exact htpos
            have Hat := Lib.hid hat; clear hat hft
            have HI := Lib.hid hI; clear hI
            have hWq := fun o => Kp.walk (Kp.new wr o) hW
            have HWq := Lib.hid hWq; clear hWq
            have hlt2 : bw < wr.heap.size := World.block_lt_of_cell? wr _ (hW 0 (by omega)).1
            go_wp2_with fail
            have hkn := Kp.new wr (.cells #[iv f, .slice tp tn tc] 53)
            have hd0 : (wr.alloc (.cells #[iv f, .slice tp tn tc] 53)).cell? ⟨wr.heap.size, 0, none⟩ = some (iv f) := by rw [World.cell?_alloc_at _ _ _ _ rfl]; rfl
            have hd1 : (wr.alloc (.cells #[iv f, .slice tp tn tc] 53)).cell? ⟨wr.heap.size, 1, none⟩ = some (.slice tp tn tc) := by rw [World.cell?_alloc_at _ _ _ _ rfl]; rfl
            have hWq := HWq.out (.cells #[iv f, .slice tp tn tc] 53)
            have hFq := hF.trans ((Fr.of_kp hkn).mono (Y := [bw]) (by simp))
            obtain ⟨bn, hbn⟩ : ∃ x, x = wr.heap.size := ⟨_, rfl⟩
            rw [← hbn] at hd0 hd1 hlt2 ⊢
            clear hbn HWq
            generalize wr.alloc (.cells #[iv f, .slice tp tn tc] 53) = wq at *
            go_loopw [51] (fun i wv => ∃ (j : Nat) (S' : Nat → Bool), j ≤ tn ∧ i = .int .i64 j ∧ Fr [bw] wq wv ∧ WalkAt wv bw S' ∧ runToks S f ts = runToks S' f (ts.drop j)) (fun i _ => tn - (intOf i).toNat)
            case atStart => exact ⟨0, S, by omega, rfl, Fr.refl _ _, hWq, rfl⟩
            case round =>
              clear hWq
              obtain ⟨j, S', hj, rfl, hF', hW', hrt⟩ := hrel
              have Hrt := Lib.hid hrt; clear hrt
              have hFa := hFq.trans hF'
              have hka := Hfar.out _ hFa
              by_cases hjt : j < tn
              · have hjl : j < ts.length := by rw [Htl.out]; exact hjt
                have hE2 := Kp.errs hka hE
                have hd0 := hF'.cell hd0 (by simp; omega)
                have hd1 := hF'.cell hd1 (by simp; omega)
                obtain ⟨tb, toff, rfl, _, hcc⟩ := (Kp.is hka HI.out).at j hjt
                have hck := hcc j hjt
                have hat2 := runToks_at S' f ts j hjl
                obtain ⟨ht1, ht7⟩ := Htm.out j hjl
                obtain ⟨L, hL⟩ : ∃ L, L = (j + 1 == ts.length) := ⟨_, rfl⟩
                rw [← hL] at hat2
                have hb : ((j : Int) == (tn : Int) - 1) = L := by
                  rw [hL, Htl.out, Bool.eq_iff_iff]; simp; omega
                clear hcc hL
                generalize ts[j]'hjl = t at hck hat2 ht1 ht7
                have Hat2 := Lib.hid hat2; clear hat2
                go_wp2_with fail
                (with_reducible refine (takes_any _ E hE2 bw S' hW' f t hfm ht1 ht7 L).mono ?_)
                rintro e w5 ⟨rfl, hF5, hW5⟩
                by_cases hc : offL S' f t L = 0
                · have hW6 := hW5 hc
                  have hrt2 : runToks S f ts = runToks (tookL S' f t) f (ts.drop (j + 1)) := by rw [Hrt.out, Hat2.out, if_pos hc]
                  rw [show errV E (offL S' f t L) = .nilIface by rw [hc]; rfl]
                  have Hrt2 := Lib.hid hrt2
                  clear hW5 hrt2 hc
                  go_wp2_with fail
                  go_roundw
                  case rel => exact ⟨j + 1, tookL S' f t, by omega, by go_num, hF'.trans hF5, hW6, Hrt2.out⟩
                  case measure => simp [intOf]; omega
                · have hk5 := Hfar.out _ (hFa.trans hF5)
                  have HF2 := Lib.hid (show checkL b0 b1 ls = offL S' f t L by
                    have h2 : runToks S f ts = (offL S' f t L, S') := by rw [Hrt.out, Hat2.out, if_neg hc]
                    have h3 : runLs (begunL b0 b1) ls = (offL S' f t L, S') := by rw [Hrun.out, Hat.out, h2]; exact if_neg hc
                    rw [HF.out, h3]; exact if_neg hc)
                  rw [show errV E (offL S' f t L) = .iface 107 (.pointer (some (E (offL S' f t L)))) from if_neg hc]
                  have Hc := Lib.hid hc
                  clear hW5 hc
                  go_wp2_with fail
                  go_ret
                  exact ⟨by rw [HF2.out]; unfold errV; rw [if_neg Hc.out]; rfl, hk5⟩
              · obtain rfl : j = tn := by omega
                have hrt2 : runLs (begunL b0 b1) ls = runLs S' (ls.drop (k + 1)) := by
                  have h2 : runToks S f ts = (0, S') := by rw [Hrt.out, List.drop_of_length_le (by rw [Htl.out]; exact Nat.le_refl _)]; rfl
                  rw [Hrun.out, Hat.out, h2]; rfl
                have Hrt2 := Lib.hid hrt2; clear hrt2
                go_wp2_with fail
                go_roundw
                case rel => exact ⟨k + 1, S', by omega, by go_num, hFa, hW', Hrt2.out⟩
                case measure => simp [intOf]; omega
          · obtain rfl : k = ls.length := by rw [Hll.out]; omega
            obtain rfl : nl = ls.length := Hll.out.symm
            have hkr := Hfar.out _ hF
            have y3 := hF.cell y3 (by simp; omega)
            have HF2 := Lib.hid (show checkL b0 b1 ls = endL S ls by
              have h3 : runLs (begunL b0 b1) ls = (0, S) := by rw [Hrun.out, List.drop_of_length_le (Nat.le_refl _)]; rfl
              rw [HF.out, h3]; rfl)
            have hE2 := Kp.errs hkr hE
            obtain ⟨b, off, tp, tn, tc, rfl, hc1, hc2, hI, htn⟩ := hl.2.2 0 hl0
            have hc1 := Kp.cell hkr hc1
            rw [Nat.zero_mul, Nat.add_zero] at hc1
            have hone : oneWay ls = (ls.length == 1 && ls[0].1 == 0) := by
              unfold oneWay
              rw [List.getElem?_eq_getElem hl0]; rfl
            generalize ls[0].1 = g at hc1 hone
            have Hone := Lib.hid hone; clear hone
            clear hI htn hc2
            go_upto_region 24 with fail
            go_cut [13] (fun v wc => v = .bool (oneWay ls) ∧ wr = wc)
            case first =>
              by_cases hl1 : ls.length = 1
              · have hb : ((ls.length : Int) == 1) = true := by simp; omega
                have HO := Lib.hid (show oneWay ls = (g == 0) by rw [Hone.out, hl1]; rfl)
                clear hl1
                go_wp2_with fail
                go_meet
                case rel => exact ⟨by rw [HO.out], rfl⟩
              · have hb : ((ls.length : Int) == 1) = false := by simp; omega
                have HO := Lib.hid (show oneWay ls = false by rw [Hone.out, beq_false_of_ne hl1]; rfl)
                clear hl1
                go_wp2_with fail
                go_meet
                case rel => exact ⟨by rw [HO.out], rfl⟩
            case rest =>
              obtain ⟨rfl, rfl⟩ := hcut
              have e12 := hE2.2.2.2
              go_wp2_with fail
              (with_reducible refine (safe_any _ bw S 0 (by omega) hW).mono ?_)
              rintro e w6 ⟨rfl, rfl⟩
              cases hs0 : safeL S 0 with
              | false =>
                have HF3 := Lib.hid (show checkL b0 b1 ls = 12 by rw [HF2.out]; unfold endL; rw [hs0]; rfl)
                clear hs0
                go_wp2_with fail
                go_ret
                exact ⟨by rw [HF3.out]; rfl, hkr⟩
              | true =>
                cases how : oneWay ls with
                | true =>
                  have HF3 := Lib.hid (show checkL b0 b1 ls = 0 by rw [HF2.out]; unfold endL; rw [hs0, how]; rfl)
                  clear hs0 how
                  go_wp2_with fail
                  go_ret
                  exact ⟨by rw [HF3.out]; rfl, hkr⟩
                | false =>
                  have HF3 := Lib.hid (show checkL b0 b1 ls = if safeL S 1 then 0 else 12 by rw [HF2.out]; unfold endL; rw [hs0, how]; cases safeL S 1 <;> rfl)
                  clear hs0 how
                  go_wp2_with fail
                  (with_reducible refine (safe_any _ bw S 1 (by omega) hW).mono ?_)
                  rintro e w7 ⟨rfl, rfl⟩
                  cases hs1 : safeL S 1 with
                  | false =>
                    have HF4 := Lib.hid (show checkL b0 b1 ls = 12 by rw [HF3.out, hs1]; rfl)
                    clear hs1
                    go_wp2_with fail
                    go_ret
                    exact ⟨by rw [HF4.out]; rfl, hkr⟩
                  | true =>
                    have HF4 := Lib.hid (show checkL b0 b1 ls = 0 by rw [HF3.out, hs1]; rfl)
                    clear hs1
                    go_wp2_with fail
                    go_ret
                    exact ⟨by rw [HF4.out]; rfl, hkr⟩
end Go.Proofs.YtpemfmjplejdiaaDoor
