/- The law file function same answers whether two lists of bytes are alike. Condition: the two arguments read as lists of bytes. -/
import Derived.Test.YtkpdbdlkihgofaaDoorBase
namespace Go.Proofs.YtkpdbdlkihgofaaDoor
open Go.RowKit


set_option maxHeartbeats 400000 in
theorem same_any (w : World) (ao bo : Option Addr) (n m c d : Nat) (xs ys : List UInt8) (hx : Bs w ao n xs) (hy : Bs w bo m ys) :
    Calls Tryd.prog 13 #[.slice ao n c, .slice bo m d] w fun e w' => e = .returned (.bool (xs == ys)) ∧ ∃ k, w' = w.drewN k := by
  have hn := hx.2.1
  have hm := hy.2.1
  unfold maxLen at hn hm
  by_cases hnm : n = m
  · subst hnm
    have hne : ((n : Int) != (n : Int)) = false := by simp
    go_enter Tryd.func13, Tryd.ntmps13
    go_wp2
    go_loopw [5] (fun i wr => ∃ k q : Nat, k ≤ n ∧ i = .int .i64 k ∧ xs.take k = ys.take k ∧ wr = w.drewN q) (fun i _ => n - (intOf i).toNat)
    case atStart => exact ⟨0, 0, by omega, rfl, by simp, rfl⟩
    case round =>
      obtain ⟨k, q, hk, rfl, ht, rfl⟩ := hrel
      have Ht := Lib.hid ht; clear ht
      by_cases hlt : k < n
      · obtain ⟨b, off, rfl, _, hc⟩ := hx.at k hlt
        obtain ⟨b', off', rfl, _, hc'⟩ := hy.at k hlt
        have hck := hc k hlt
        have hck' := hc' k hlt
        have lx : k < xs.length := by rw [hx.1]; exact hlt
        have ly : k < ys.length := by rw [hy.1]; exact hlt
        clear hc hc'
        by_cases he : xs[k] = ys[k]
        · have hb : ((xs[k].toNat : Int) != (ys[k].toNat : Int)) = false := by rw [he]; simp
          go_wp2
          go_quiet (fail)
          go_wp2
          go_roundw
          case rel => exact ⟨k + 1, _, by omega, by go_num, by rw [take_step _ _ lx, take_step _ _ ly, Ht.out, he], rfl⟩
          case measure => simp [intOf]; omega
        · have hb : ((xs[k].toNat : Int) != (ys[k].toNat : Int)) = true := by
            unfold bne; rw [byte_eq]; simp [he]
          go_wp2
          go_quiet (fail)
          go_wp2
          go_ret
          have hxy : (xs == ys) = false := by
            rw [beq_eq_false_iff_ne]; intro h; subst h; exact he rfl
          exact ⟨by rw [hxy]; rfl, _, by first | rfl | exact World.drewN_drewN _ _ _⟩
      · go_wp2
        go_ret
        have hxy : xs = ys := by
          have := Ht.out
          rwa [List.take_of_length_le (by rw [hx.1]; omega), List.take_of_length_le (by rw [hy.1]; omega)] at this
        exact ⟨by rw [hxy]; simp, _, rfl⟩
  · have hne : ((n : Int) != (m : Int)) = true := by simp; omega
    have hxy : (xs == ys) = false := by
      rw [beq_eq_false_iff_ne]; intro h; apply hnm; rw [← hx.1, ← hy.1, h]
    have Hxy := Lib.hid hxy; clear hxy
    go_enter Tryd.func13, Tryd.ntmps13
    go_wp2
    go_ret
    exact ⟨by rw [Hxy.out]; rfl, 0, rfl⟩
#print axioms same_any
end Go.Proofs.YtkpdbdlkihgofaaDoor
