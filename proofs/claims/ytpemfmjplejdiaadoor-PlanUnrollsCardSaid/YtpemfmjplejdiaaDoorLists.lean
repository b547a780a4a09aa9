/- The law's own comparisons: two lists of numbers, two lists of moves. Conditions: the lists lie there (Is, Mvs). -/
import Derived.Test.YtpemfmjplejdiaaDoorPlan
import Derived.Deep.QuietTactic
import Derived.BigQuiet
namespace Go.Proofs.YtpemfmjplejdiaaDoor
open Go.RowKit

theorem lists_cut {α : Type} [BEq α] [LawfulBEq α] (xs ys : List α) (hl : xs.length = ys.length) (k : Nat) (hk : k < xs.length) (h : xs.take k = ys.take k) :
    (xs[k] = ys[k]'(by omega) → xs.take (k + 1) = ys.take (k + 1)) ∧ (xs[k] ≠ ys[k]'(by omega) → xs ≠ ys) := by
  refine ⟨fun he => by rw [take_step xs k hk, take_step ys k (by omega), h, he], fun hne he => ?_⟩
  subst he
  exact hne rfl

set_option maxHeartbeats 2000000 in
theorem lists_any (w : World) (ao bo : Option Addr) (n m c d : Nat) (xs ys : List Int) (hx : Is w ao n xs) (hy : Is w bo m ys) :
    Calls Tryd.prog 33 #[.slice ao n c, .slice bo m d] w fun e w' => e = .returned (.bool (xs == ys)) ∧ ∃ q, w' = w.drewN q := by
  have hn := hx.2.1
  have hm := hy.2.1
  unfold maxLen at hn hm
  have Hx := Lib.hid hx.1
  have Hy := Lib.hid hy.1
  by_cases hnm : n = m
  · subst hnm
    go_enter Tryd.func33, Tryd.ntmps33
    go_wp2_with fail
    go_loopw [5] (fun i wr => ∃ k q : Nat, k ≤ n ∧ i = .int .i64 k ∧ wr = w.drewN q ∧ xs.take k = ys.take k) (fun i _ => n - (intOf i).toNat)
    case atStart => exact ⟨0, 0, by omega, rfl, rfl, rfl⟩
    case round =>
      obtain ⟨k, q, hk, rfl, rfl, htk⟩ := hrel
      by_cases hlt : k < n
      · obtain ⟨b, off, rfl, _, hc⟩ := hx.at k hlt
        obtain ⟨b', off', rfl, _, hc'⟩ := hy.at k hlt
        have c1 := hc k hlt
        have c2 := hc' k hlt
        have lx : k < xs.length := by rw [Hx.out]; exact hlt
        have ly : k < ys.length := by rw [Hy.out]; exact hlt
        have hcut := lists_cut xs ys (by rw [Hx.out, Hy.out]) k lx htk
        clear hc hc' htk
        generalize xs[k]'lx = x at c1 hcut
        generalize ys[k]'ly = y at c2 hcut
        by_cases hxy : x = y
        · have Hc := Lib.hid (hcut.1 hxy)
          have hne : (x != y) = false := by simp [hxy]
          clear hcut hxy
          go_wp2_with fail
          go_quiet (fail)
          go_wp2_with fail
          go_roundw
          case rel => exact ⟨k + 1, _, by omega, by go_num, by first | rfl | exact World.drewN_drewN _ _ _, Hc.out⟩
          case measure => simp [intOf]; omega
        · have Hc := Lib.hid (show (xs == ys) = false by simpa using hcut.2 hxy)
          have hne : (x != y) = true := by simpa using hxy
          clear hcut hxy
          go_wp2_with fail
          go_quiet (fail)
          go_wp2_with fail
          go_ret
          exact ⟨by rw [Hc.out]; rfl, _, World.drewN_drewN _ _ _⟩
      · have Hc := Lib.hid (show (xs == ys) = true by
          rw [List.take_of_length_le (by rw [Hx.out]; omega), List.take_of_length_le (by rw [Hy.out]; omega)] at htk
          simp [htk])
        clear htk
        go_wp2_with fail
        go_ret
        exact ⟨by rw [Hc.out]; rfl, q, rfl⟩
  · have Hc := Lib.hid (show (xs == ys) = false by
      cases hq : (xs == ys) with
      | false => rfl
      | true => exact absurd (by rw [← Hx.out, ← Hy.out, beq_iff_eq.1 hq]) hnm)
    have hb : ((n : Int) != (m : Int)) = true := by simp; omega
    clear hnm
    go_enter Tryd.func33, Tryd.ntmps33
    go_wp2_with fail
    go_ret
    exact ⟨by rw [Hc.out]; rfl, 0, rfl⟩

theorem Mvs.at {w : World} {ao : Option Addr} {n : Nat} {ms : List Mv} (h : Mvs w ao n ms) (k : Nat) (hk : k < n) :
    ∃ b off, ao = some ⟨b, off, none⟩ ∧ ∀ j, (hj : j < n) → w.cell? ⟨b, off + j * 3, none⟩ = some (iv (ms[j]'(by rw [h.1]; exact hj)).op) ∧ w.cell? ⟨b, off + j * 3 + 1, none⟩ = some (iv (ms[j]'(by rw [h.1]; exact hj)).key) ∧ w.cell? ⟨b, off + j * 3 + 2, none⟩ = some (iv (ms[j]'(by rw [h.1]; exact hj)).wth) := by
  obtain ⟨h1, _, h2⟩ := h
  obtain ⟨b, off, rfl, hc⟩ := h2.at (k * 3) (by rw [mvc_length]; omega)
  refine ⟨b, off, rfl, fun j hj => ?_⟩
  obtain ⟨g0, g1, g2⟩ := mvc_get ms j (by omega)
  exact ⟨hc _ _ g0, by have := hc _ _ g1; rwa [← Nat.add_assoc] at this, by have := hc _ _ g2; rwa [← Nat.add_assoc] at this⟩
theorem mv_eq (a b : Mv) : (a.op == b.op && (a.key == b.key && a.wth == b.wth)) = (a == b) := by
  rw [Bool.eq_iff_iff]
  simp only [Bool.and_eq_true, beq_iff_eq]
  constructor
  · rintro ⟨h1, h2, h3⟩; cases a; cases b; simp_all
  · rintro rfl; simp

set_option maxHeartbeats 2000000 in
theorem moves2_any (w : World) (ao bo : Option Addr) (n m c d : Nat) (xs ys : List Mv) (hx : Mvs w ao n xs) (hy : Mvs w bo m ys) :
    Calls Tryd.prog 15 #[.slice ao n c, .slice bo m d] w fun e w' => e = .returned (.bool (xs == ys)) ∧ Kp w w' := by
  have hn := hx.2.1
  have hm := hy.2.1
  unfold maxLen at hn hm
  have Hx := Lib.hid hx.1
  have Hy := Lib.hid hy.1
  have hq := neq42
  by_cases hnm : n = m
  · subst hnm
    go_enter Tryd.func15, Tryd.ntmps15
    go_wp2_with fail
    go_loopw [5] (fun i wr => ∃ k q : Nat, k ≤ n ∧ i = .int .i64 k ∧ wr = w.drewN q ∧ xs.take k = ys.take k) (fun i _ => n - (intOf i).toNat)
    case atStart => exact ⟨0, 0, by omega, rfl, rfl, rfl⟩
    case round =>
      obtain ⟨k, q, hk, rfl, rfl, htk⟩ := hrel
      by_cases hlt : k < n
      · obtain ⟨b, off, rfl, hc⟩ := hx.at k hlt
        obtain ⟨b', off', rfl, hc'⟩ := hy.at k hlt
        obtain ⟨c1, c2, c3⟩ := hc k hlt
        obtain ⟨d1, d2, d3⟩ := hc' k hlt
        have lx : k < xs.length := by rw [Hx.out]; exact hlt
        have ly : k < ys.length := by rw [Hy.out]; exact hlt
        have hcut := lists_cut xs ys (by rw [Hx.out, Hy.out]) k lx htk
        clear hc hc' htk
        generalize xs[k]'lx = x at c1 c2 c3 hcut
        generalize ys[k]'ly = y at d1 d2 d3 hcut
        have he := mv_eq x y
        by_cases hxy : x = y
        · have Hc := Lib.hid (hcut.1 hxy)
          have he : (x.op == y.op && (x.key == y.key && x.wth == y.wth)) = true := by rw [he]; simp [hxy]
          obtain ⟨x1, x2, x3⟩ := x
          obtain ⟨y1, y2, y3⟩ := y
          simp only at c1 c2 c3 d1 d2 d3 he
          have hq2 : ∀ w, (binOp .neq 42 (.agg #[.int .i64 x1, .int .i64 x2, .int .i64 x3]) (.agg #[.int .i64 y1, .int .i64 y2, .int .i64 y3])).run Tryd.prog w = .ok (.bool false) w := fun w => by rw [neq42, he]; rfl
          clear hcut hxy hq he
          go_wp2_with fail
          go_quiet (fail)
          go_wp2_with fail
          go_roundw
          case rel => exact ⟨k + 1, _, by omega, by go_num, by first | rfl | exact World.drewN_drewN _ _ _, Hc.out⟩
          case measure => simp [intOf]; omega
        · have Hc := Lib.hid (show (xs == ys) = false by simpa using hcut.2 hxy)
          have he : (x.op == y.op && (x.key == y.key && x.wth == y.wth)) = false := by rw [he]; simpa using hxy
          obtain ⟨x1, x2, x3⟩ := x
          obtain ⟨y1, y2, y3⟩ := y
          simp only at c1 c2 c3 d1 d2 d3 he
          have hq2 : ∀ w, (binOp .neq 42 (.agg #[.int .i64 x1, .int .i64 x2, .int .i64 x3]) (.agg #[.int .i64 y1, .int .i64 y2, .int .i64 y3])).run Tryd.prog w = .ok (.bool true) w := fun w => by rw [neq42, he]; rfl
          clear hcut hxy hq he
          go_wp2_with fail
          go_quiet (fail)
          go_wp2_with fail
          go_ret
          exact ⟨by rw [Hc.out]; rfl, by rw [World.drewN_drewN]; exact Kp.of_drewN _ _⟩
      · have Hc := Lib.hid (show (xs == ys) = true by
          rw [List.take_of_length_le (by rw [Hx.out]; omega), List.take_of_length_le (by rw [Hy.out]; omega)] at htk
          simp [htk])
        clear htk hq
        go_wp2_with fail
        go_ret
        exact ⟨by rw [Hc.out]; rfl, Kp.of_drewN _ _⟩
  · have Hc := Lib.hid (show (xs == ys) = false by
      cases hq : (xs == ys) with
      | false => rfl
      | true => exact absurd (by rw [← Hx.out, ← Hy.out, beq_iff_eq.1 hq]) hnm)
    have hb : ((n : Int) != (m : Int)) = true := by simp; omega
    clear hnm hq
    go_enter Tryd.func15, Tryd.ntmps15
    go_wp2_with fail
    go_ret
    exact ⟨by rw [Hc.out]; rfl, Kp.refl _⟩
end Go.Proofs.YtpemfmjplejdiaaDoor
