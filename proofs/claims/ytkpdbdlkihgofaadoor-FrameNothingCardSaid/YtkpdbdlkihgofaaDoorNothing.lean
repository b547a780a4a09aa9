/- FrameNothing, walked. Conditions: the list is a script (Sts); ErrLong is laid (HasErr). -/
import Derived.Test.YtkpdbdlkihgofaaDoorScript
namespace Go.Proofs.YtkpdbdlkihgofaaDoor
open Go.RowKit

theorem nil_feed (w : World) (bo : Option Addr) (m c : Nat) : Calls Tryd.prog 19 #[.pointer none, .slice bo m c] w fun e w' => e = .returned (.tuple #[]) ∧ Kp w w' := by
  go_enter Tryd.func19, Tryd.ntmps19
  go_wp2
  exact bodyPost_ret (v := .tuple #[]) (by simp [results, Tryd.results19, go_sem]) rfl ⟨rfl, Kp.refl _⟩
theorem nil_next (w : World) : Calls Tryd.prog 20 #[.pointer none] w fun e w' => e = .returned (.tuple #[.slice none 0 0, .bool false]) ∧ Kp w w' := by
  go_enter Tryd.func20, Tryd.ntmps20
  go_wp2
  exact bodyPost_ret (v := .tuple #[.slice none 0 0, .bool false]) (by simp [results, Tryd.results20, go_sem]) rfl ⟨rfl, Kp.refl _⟩
theorem nil_held (w : World) : Calls Tryd.prog 21 #[.pointer none] w fun e w' => e = .returned (.int .i64 0) ∧ Kp w w' := by
  go_enter Tryd.func21, Tryd.ntmps21
  go_wp2
  go_ret
  exact ⟨rfl, Kp.refl _⟩

set_option maxHeartbeats 4000000 in
theorem frameNothing_walk (w : World) (a : Addr) (hH : HasErr w a) (lo : Option Addr) (n c : Nat) (ss : List (Int × List UInt8)) (hs : Sts w lo n ss) :
    Calls Tryd.prog 6 #[.slice lo n c] w fun e w' => e = .returned (.bool true) ∧ Kp w w' := by
  have hn := hs.2.1
  unfold maxLen at hn
  go_enter Tryd.func6, Tryd.ntmps6
  go_wp2_with fail
  (with_reducible refine (script_any w lo n c ss hs).mono ?_)
  rintro e w1 ⟨b, rfl, hk1, hb⟩
  cases b with
  | true =>
    go_wp2_with fail
    go_ret
    exact ⟨rfl, hk1⟩
  | false =>
    obtain ⟨h400, htot⟩ := hb rfl
    have hs1 := Kp.sts hk1 hs
    have hH1 := Kp.err hk1 hH
    have hl := Lib.hid hs.1
    clear hs hb
    go_wp2_with fail
    go_loopw [4] (fun i wr => ∃ k : Nat, k ≤ n ∧ i = .int .i64 k ∧ Kp w1 wr) (fun i _ => n - (intOf i).toNat)
    case atStart => exact ⟨0, by omega, rfl, Kp.refl _⟩
    case round =>
      obtain ⟨k, hk, rfl, hkk⟩ := hrel
      by_cases hlt : k < n
      · have hkl : k < ss.length := by rw [hl.out]; exact hlt
        obtain ⟨b, off, xo, xn, xc, rfl, hc0, hc1, hB, _⟩ := hs1.2.2 k hkl
        have hc1 := Kp.cell hkk hc1
        go_wp2_with fail
        (with_reducible refine (nil_feed wr xo xn xc).mono ?_)
        rintro e w2 ⟨rfl, hk2⟩
        go_wp2_with fail
        (with_reducible refine (nil_next w2).mono ?_)
        rintro e w3 ⟨rfl, hk3⟩
        go_wp2_with fail
        (with_reducible refine (nil_held w3).mono ?_)
        rintro e w4 ⟨rfl, hk4⟩
        go_wp2_with fail
        go_roundw
        case rel => exact ⟨k + 1, by omega, by go_num, Kp.trans hkk (Kp.trans hk2 (Kp.trans hk3 hk4))⟩
        case measure => simp [intOf]; omega
      · go_wp2_with fail
        (with_reducible refine (nil_held wr).mono ?_)
        rintro e w4 ⟨rfl, hk4⟩
        go_wp2_with fail
        have hk5 := Kp.trans hkk hk4
        (with_reducible refine (known_yes w4 a (Kp.err hk5 hH1)).mono ?_)
        rintro e w5 ⟨rfl, hk6⟩
        go_wp2_with fail
        go_ret
        exact ⟨rfl, Kp.trans hk1 (Kp.trans hk5 hk6)⟩
end Go.Proofs.YtkpdbdlkihgofaaDoor
