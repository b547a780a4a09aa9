/- Whether a pattern is more than is looked at; what is small has small lists. Conditions: the pattern lies there (Is, Lns); its name's length is a length. -/
import Derived.Test.YtpemfmjplejdiaaDoorLarge
namespace Go.Proofs.YtpemfmjplejdiaaDoor
open Go.RowKit

/-- What is not large has short lists. -/
def SmallP (n0 n1 nl sz : Nat) (ls : List Ln) : Prop := n0 ≤ 1000 ∧ n1 ≤ 1000 ∧ nl ≤ 1000 ∧ sz ≤ 1000 ∧ ∀ j (h : j < ls.length), ls[j].2.length ≤ 1000
def LargePost (w : World) (n0 n1 nl sz : Nat) (ls : List Ln) (e : Ending) (w' : World) : Prop := ∃ b, e = .returned (.bool b) ∧ Kp w w' ∧ (b = false → SmallP n0 n1 nl sz ls)

set_option maxRecDepth 100000 in
set_option maxHeartbeats 2000000 in
theorem largeB_any (w : World) (nm : ByteArray) (a0 a1 al : Option Addr) (n0 c0 n1 c1 nl cl : Nat) (b0 b1 : List Int) (ls : List Ln) (hnm : nm.size ≤ 9223372036854775807) (h0 : Is w a0 n0 b0) (h1 : Is w a1 n1 b1) (hl : Lns w al nl ls) :
    Calls Tryd.prog 9 #[.agg #[.string nm, .slice a0 n0 c0, .slice a1 n1 c1, .slice al nl cl]] w (LargePost w n0 n1 nl nm.size ls) := by
  have hn0 := h0.2.1
  have hn1 := h1.2.1
  unfold maxLen at hn0 hn1
  have hnl := hl.2.1
  have Hll := Lib.hid hl.1
  have hk1 := Kp.new w (.cells #[.string nm, .slice a0 n0 c0, .slice a1 n1 c1, .slice al nl cl] 26)
  by_cases c1' : 1000 < nl
  · go_enter Tryd.func9, Tryd.ntmps9
    go_wp2_with fail
    go_ret
    exact ⟨_, rfl, hk1, fun h => by cases h⟩
  · by_cases c2' : 1000 < n0
    · go_enter Tryd.func9, Tryd.ntmps9
      go_wp2_with fail
      go_ret
      exact ⟨_, rfl, hk1, fun h => by cases h⟩
    · by_cases c3' : 1000 < n1
      · go_enter Tryd.func9, Tryd.ntmps9
        go_wp2_with fail
        go_ret
        exact ⟨_, rfl, hk1, fun h => by cases h⟩
      · by_cases c4' : 1000 < nm.size
        · go_enter Tryd.func9, Tryd.ntmps9
          go_wp2_with fail
          go_ret
          exact ⟨_, rfl, hk1, fun h => by cases h⟩
        · have hnew : (w.alloc (.cells #[.string nm, .slice a0 n0 c0, .slice a1 n1 c1, .slice al nl cl] 26)).cell? ⟨w.heap.size, 3, none⟩ = some (.slice al nl cl) := by rw [World.cell?_alloc_at _ _ _ _ rfl]; rfl
          go_enter Tryd.func9, Tryd.ntmps9
          go_wp2_with fail
          generalize w.alloc (.cells #[.string nm, .slice a0 n0 c0, .slice a1 n1 c1, .slice al nl cl] 26) = wb at *
          go_loopw [3, 4] (fun t i wr => ∃ k n : Nat, k ≤ nl ∧ n ≤ 1000 ∧ i = .int .i64 k ∧ t = .int .i64 n ∧ wb = wr ∧ ∀ j (h : j < ls.length), j < k → ls[j].2.length ≤ 1000) (fun _ i _ => nl - (intOf i).toNat)
          case atStart => exact ⟨0, 0, by omega, by omega, rfl, rfl, rfl, fun j _ h => absurd h (by omega)⟩
          case round =>
            obtain ⟨k, n, hk, hn, rfl, rfl, rfl, hall⟩ := hrel
            have Hall := Lib.hid hall; clear hall
            by_cases hlt : k < nl
            · have hkl : k < ls.length := by rw [Hll.out]; exact hlt
              obtain ⟨b, off, tp, tn, tc, rfl, hd1, hd2, hI, htn⟩ := hl.2.2 k hkl
              have hd2 := Kp.cell hk1 hd2
              have Hlen := Lib.hid hI.1
              by_cases hov : n + tn ≤ 1000
              · go_wp2_with fail
                go_roundw
                case rel =>
                  refine ⟨k + 1, n + tn, by omega, hov, by go_num, rfl, trivial, fun j h hj => ?_⟩
                  rcases Nat.lt_or_ge j k with q | q
                  · exact Hall.out j h q
                  · obtain rfl : j = k := by omega
                    rw [Hlen.out]; omega
                case measure => simp [intOf]; omega
              · go_wp2_with fail
                go_ret
                exact ⟨_, rfl, hk1, fun h => by cases h⟩
            · go_wp2_with fail
              go_ret
              exact ⟨_, rfl, hk1, fun _ => ⟨by omega, by omega, by omega, by omega, fun j h => Hall.out j h (by rw [Hll.out] at h; omega)⟩⟩
end Go.Proofs.YtpemfmjplejdiaaDoor
