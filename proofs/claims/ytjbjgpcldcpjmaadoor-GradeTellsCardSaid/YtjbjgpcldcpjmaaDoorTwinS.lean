/- Whether a list with room behind it is as it was made. Conditions: the lists lie there (Is). -/
import Derived.Test.YtjbjgpcldcpjmaaDoorTwinA
namespace Go.Proofs.YtjbjgpcldcpjmaaDoor
open Go.RowKit

set_option maxRecDepth 100000 in
set_option maxHeartbeats 4000000 in
theorem stands_any (w : World) (ao bo : Option Addr) (n ca cb : Nat) (l : List Int) (hw : Is w ao (n + 9) (roomL l)) (hl : Is w bo n l) (hn : n ≤ 1000) : Calls Tryd.prog 28 #[.slice ao (n + 9) ca, .slice bo n cb] w fun e w' => e = .returned (.bool true) ∧ ∃ m, w' = w.drewN m := by
  have Hl := Lib.hid hl.1
  obtain ⟨N, hN⟩ : ∃ N, N = n + 9 := ⟨_, rfl⟩
  rw [← hN] at hw ⊢
  have HN := Lib.hid hN
  have hN9 : N ≤ 2000 := by omega
  clear hN
  go_enter Tryd.func28, Tryd.ntmps28
  go_wp2_with fail
  obtain ⟨w0, hw0⟩ : ∃ w0 : World, w0 = w := ⟨_, rfl⟩
  go_loopw [5] (fun i wr => ∃ k : Nat, k ≤ N ∧ i = .int .i64 (k : Nat) ∧ ∃ m, wr = w0.drewN m) (fun i _ => N - (intOf i).toNat)
  case atStart => exact ⟨0, by omega, rfl, 0, by subst hw0; rfl⟩
  case round =>
    obtain ⟨k, hk, rfl, hdr⟩ := hrel
    rename World => wr
    subst hw0
    have hkr : Kp w0 wr := by obtain ⟨m, rfl⟩ := hdr; exact Kp.of_drewN w0 m
    have Hdr := Lib.hid hdr
    clear hdr
    by_cases hkN : k < N
    · obtain ⟨b, off, rfl, _, hc⟩ := hw.at k hkN
      have c0 := hkr.cell (hc k hkN)
      by_cases hkn : k < n
      · have hkl : k < l.length := by rw [Hl.out]; exact hkn
        obtain ⟨b2, off2, rfl, _, hd⟩ := hl.at k hkn
        have c1 := hkr.cell (hd k hkn)
        have he : (roomL l)[k]'(by rw [roomL_length]; omega) = l[k] := by
          have := roomL_lt l hkl
          rw [List.getElem?_eq_getElem (by rw [roomL_length]; omega)] at this
          exact Option.some.inj this
        rw [he] at c0
        generalize l[k]'hkl = v at c0 c1
        have hnle : ¬ n ≤ k := by omega
        have hv : (v != v) = false := by simp
        clear hc hd he
        go_wp2_with fail
        go_big_quiet (fail)
        generalize hwn : wr.drewN nq = wn
        have Hdn : ∃ m, wn = w0.drewN m := by
          obtain ⟨m, e⟩ := Hdr.out
          exact ⟨m + nq, by rw [← hwn, e, World.drewN_drewN]⟩
        replace Hdn := Lib.hid Hdn
        clear hwn
        go_wp2_with fail
        go_roundw
        case rel => exact ⟨k + 1, by omega, by go_num, Hdn.out⟩
        case measure => simp [intOf]; omega
      · have he : (roomL l)[k]'(by rw [roomL_length, Hl.out]; have := HN.out; omega) = 700 + (k : Int) := by
          have := roomL_ge l (i := k) (by rw [Hl.out]; omega) (by rw [Hl.out]; have := HN.out; omega)
          rw [List.getElem?_eq_getElem (by rw [roomL_length, Hl.out]; have := HN.out; omega)] at this
          exact Option.some.inj this
        rw [he] at c0
        have hnle : n ≤ k := by omega
        have hv : ((700 + (k : Int)) != (700 + (k : Int))) = false := by simp
        clear hc he
        go_wp2_with fail
        go_big_quiet (fail)
        generalize hwn : wr.drewN nq = wn
        have Hdn : ∃ m, wn = w0.drewN m := by
          obtain ⟨m, e⟩ := Hdr.out
          exact ⟨m + nq, by rw [← hwn, e, World.drewN_drewN]⟩
        replace Hdn := Lib.hid Hdn
        clear hwn
        go_wp2_with fail
        go_roundw
        case rel => exact ⟨k + 1, by omega, by go_num, Hdn.out⟩
        case measure => simp [intOf]; omega
    · go_wp2_with fail
      go_ret
      exact ⟨rfl, Hdr.out⟩
end Go.Proofs.YtjbjgpcldcpjmaaDoor
