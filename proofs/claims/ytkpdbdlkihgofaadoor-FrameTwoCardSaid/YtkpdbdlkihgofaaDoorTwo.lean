/- FrameTwo, walked. Conditions: the list is a script (Sts); ErrLong is laid (HasErr). -/
import Derived.Test.YtkpdbdlkihgofaaDoorPlays
namespace Go.Proofs.YtkpdbdlkihgofaaDoor
open Go.RowKit

/-- Two pairs made behind w0, in blocks apart. -/
def Two (w0 : World) (s r t q T U : Nat) (held heldt : List UInt8) (w : World) : Prop :=
  ∃ ao ho bo jo, Pr w s r ao ho held T ∧ Pr w t q bo jo heldt U ∧ Kp w0 w ∧ (∀ k ∈ foot s r ao ho, w0.heap.size ≤ k) ∧ (∀ k ∈ foot t q bo jo, w0.heap.size ≤ k) ∧ ∀ k ∈ foot s r ao ho, k ∉ foot t q bo jo

theorem Two.swap {w0 w : World} {s r t q T U : Nat} {held heldt : List UInt8} (h : Two w0 s r t q T U held heldt w) : Two w0 t q s r U T heldt held w := by
  obtain ⟨ao, ho, bo, jo, h1, h2, h3, h4, h5, h6⟩ := h
  exact ⟨bo, jo, ao, ho, h2, h1, h3, h5, h4, fun k hk hk2 => h6 k hk2 hk⟩
theorem Two.go {w0 w : World} {s r t q T U : Nat} {held heldt : List UInt8} (h : Two w0 s r t q T U held heldt w) (kind : Int) (xo : Option Addr) (xn xc : Nat) (ys : List UInt8) (hy : Bs w0 xo xn ys) (hT : T + ys.length ≤ 1000000) :
    Calls Tryd.prog 17 #[.pointer (some ⟨s, 0, none⟩), .agg #[.int .i64 kind, .slice xo xn xc]] w fun e w' => e = .returned (.bool true) ∧ Two w0 s r t q (T + ys.length) U (heldStep kind ys held) heldt w' := by
  obtain ⟨ao, ho, bo, jo, h1, h2, h3, h4, h5, h6⟩ := h
  have hlt := h2.lt
  refine (h1.go h3 h4 kind xo xn xc ys hy hT).mono ?_
  rintro e w' ⟨rfl, ao', ho', g1, g2, g3, g4, g5⟩
  refine ⟨rfl, ao', ho', bo, jo, g1, h2.keep g2 (fun j hj hj2 => h6 j hj2 hj), g3, g5, h5, fun k hk hk2 => ?_⟩
  rcases g4 k hk with h7 | h7
  · exact h6 k h7 hk2
  · have := hlt k hk2; omega
theorem Two.kp {w0 w w' : World} {s r t q T U : Nat} {held heldt : List UInt8} (h : Two w0 s r t q T U held heldt w) (k : Kp w w') : Two w0 s r t q T U held heldt w' := by
  obtain ⟨ao, ho, bo, jo, h1, h2, h3, h4, h5, h6⟩ := h
  exact ⟨ao, ho, bo, jo, h1.keep (Fr.of_kp k) (by simp), h2.keep (Fr.of_kp k) (by simp), Kp.trans h3 k, h4, h5, h6⟩
theorem Two.up {w0 w : World} {s r t q T U T' U' : Nat} {held heldt : List UInt8} (h : Two w0 s r t q T U held heldt w) (hT : T ≤ T') (hU : U ≤ U') : Two w0 s r t q T' U' held heldt w := by
  obtain ⟨ao, ho, bo, jo, h1, h2, h3, h4, h5, h6⟩ := h
  exact ⟨ao, ho, bo, jo, h1.up hT, h2.up hU, h3, h4, h5, h6⟩
theorem Two.keeps {w0 w : World} {s r t q T U : Nat} {held heldt : List UInt8} (h : Two w0 s r t q T U held heldt w) : Kp w0 w := by
  obtain ⟨ao, ho, bo, jo, h1, h2, h3, h4, h5, h6⟩ := h
  exact h3
theorem Two.new {w0 w : World} (hk : Kp w0 w) {b c : Nat} (hb : b = w.heap.size) (hc : c = w.heap.size + 2) (e1 e2 e3 e4 : TypeId) :
    Two w0 (b + 1) b (c + 1) c 0 0 [] [] ((((w.alloc (.cells #[.slice none 0 0, .int .i64 0] e1)).alloc (.cells #[.pointer (some ⟨b, 0, none⟩), .slice none 0 0] e2)).alloc (.cells #[.slice none 0 0, .int .i64 0] e3)).alloc (.cells #[.pointer (some ⟨c, 0, none⟩), .slice none 0 0] e4)) := by
  have h1 := (Plays.new hk hb e1 e2).choose_spec.choose_spec.2.1
  have hz := hk.size
  have h2 := Pr.new (w := (w.alloc (.cells #[.slice none 0 0, .int .i64 0] e1)).alloc (.cells #[.pointer (some ⟨b, 0, none⟩), .slice none 0 0] e2)) (b := c) (by simp [hc]) e3 e4
  have h3 := (Pr.new hb e1 e2).keep ((Fr.new [] _ (.cells #[.slice none 0 0, .int .i64 0] e3)).trans (Fr.new [] _ (.cells #[.pointer (some ⟨c, 0, none⟩), .slice none 0 0] e4))) (by simp)
  refine ⟨none, none, none, none, h3, h2, Kp.trans h1 ((Kp.new _ _).alloc (by simp) _), ?_, ?_, ?_⟩
  · intro k hk2; simp [foot, blkL, blk] at hk2; omega
  · intro k hk2; simp [foot, blkL, blk] at hk2; omega
  · intro k hk2 hk3; simp [foot, blkL, blk] at hk2 hk3; omega

set_option maxHeartbeats 8000000 in
theorem frameTwo_walk (w : World) (a : Addr) (hH : HasErr w a) (lo : Option Addr) (n c : Nat) (ss : List (Int × List UInt8)) (hs : Sts w lo n ss) :
    Calls Tryd.prog 5 #[.slice lo n c] w fun e w' => e = .returned (.bool true) ∧ Kp w w' := by
  have hn := hs.2.1
  unfold maxLen at hn
  go_enter Tryd.func5, Tryd.ntmps5
  go_wp2_with fail
  (with_reducible refine (script_any w lo n c ss hs).mono ?_)
  rintro e w1 ⟨b, rfl, hk1, hb⟩
  cases b with
  | true =>
    go_wp2_with fail
    go_ret
    exact ⟨rfl, hk1⟩
  | false =>
    obtain ⟨h400, htot⟩ := hb rfl
    have hs1 := Kp.sts hk1 hs
    have hH1 := Kp.err hk1 hH
    have hl := Lib.hid hs.1
    clear hs hb
    go_wp2_with fail
    have hP0 := Two.new (Kp.refl w1) rfl rfl 39 43 39 43
    go_loopw [5] (fun i wr => ∃ (k : Nat) (h1 h2 : List UInt8), k ≤ n ∧ i = .int .i64 k ∧ Two w1 (w1.heap.size + 1) w1.heap.size (w1.heap.size + 1 + 1 + 1) (w1.heap.size + 1 + 1) (tot ss k) (tot ss k) h1 h2 wr) (fun i _ => n - (intOf i).toNat)
    case atStart => exact ⟨0, [], [], by omega, rfl, by rw [tot_zero]; exact hP0⟩
    case round =>
      obtain ⟨k, g1, g2, hk, rfl, hPk⟩ := hrel
      clear hP0
      by_cases hlt : k < n
      · have hkl : k < ss.length := by rw [hl.out]; exact hlt
        obtain ⟨b, off, xo, xn, xc, rfl, hc0, hc1, hB, _⟩ := hs1.2.2 k hkl
        have hkk : Kp w1 wr := hPk.keeps
        have hc0 := Kp.cell hkk hc0
        have hc1 := Kp.cell hkk hc1
        have ht1 := tot_succ ss k hkl
        have ht2 := tot_mono ss (show k + 1 ≤ ss.length by rw [hl.out]; exact hlt)
        by_cases h3 : k % 3 = 0
        · have h3' : ((k : Int) % 3 == 0) = true := by simp; omega
          have hgo := hPk.swap.go ss[k].1 xo xn xc _ hB (by omega)
          rw [← ht1] at hgo
          clear ht1 ht2 hB
          go_wp2_with fail
          (with_reducible refine hgo.mono ?_)
          rintro e w2 ⟨rfl, hP2⟩
          have hk2 : ((k : Int) == 2) = false := by simp; omega
          go_wp2_with fail
          go_roundw
          case rel => exact ⟨k + 1, _, _, by omega, by go_num, hP2.swap.up (tot_mono ss (by omega)) (Nat.le_refl _)⟩
          case measure => simp [intOf]; omega
        · have h3' : ((k : Int) % 3 == 0) = false := by simp; omega
          have hgo := hPk.go ss[k].1 xo xn xc _ hB (by omega)
          rw [← ht1] at hgo
          clear ht1 ht2 hB
          go_wp2_with fail
          (with_reducible refine hgo.mono ?_)
          rintro e w2 ⟨rfl, hP2⟩
          by_cases hk2 : k = 2
          · subst hk2
            go_wp2_with fail
            have hR : Rdr ((w2.alloc (.cells #[.slice none 0 0, .int .i64 0] 39)).alloc (.cells #[.int .u8 0, .int .u8 1, .int .u8 7, .int .u8 7] 5)) 0 w2.heap.size none [] 0 := (Rdr.new w2 0 _ 39 rfl).keep (Fr.new [] _ _) (by simp)
            have hs : Bs ((w2.alloc (.cells #[.slice none 0 0, .int .i64 0] 39)).alloc (.cells #[.int .u8 0, .int .u8 1, .int .u8 7, .int .u8 7] 5)) (some ⟨w2.heap.size + 1, 0, none⟩) 4 [0, 1, 7, 7] := Bs.lit _ [.int .u8 0, .int .u8 1, .int .u8 7, .int .u8 7] 5 (0, 0) _ 4 _ (by simp) rfl rfl (by omega)
            have hkk : Kp w2 ((w2.alloc (.cells #[.slice none 0 0, .int .i64 0] 39)).alloc (.cells #[.int .u8 0, .int .u8 1, .int .u8 7, .int .u8 7] 5)) := ((Kp.new _ _).alloc (by simp) _)
            (with_reducible refine (hR.feed (Nat.zero_le _) hs (by simp [blkL, blk]) (by simp)).mono ?_)
            rintro e w3 ⟨rfl, ao3, hR3, hF3, hN3⟩
            have hF23 : Fr [] w2 w3 := Fr.step (Fr.of_kp hkk) hF3 (by simp [blkL, blk])
            clear hkk hs hR hF3
            go_wp2_with fail
            (with_reducible refine (hR3.next_yes (by simp) (m := [7]) (rest := [7]) rfl).mono ?_)
            rintro e w4 ⟨bo, cap5, rfl, ho4, hR4, hF4⟩
            have hk24 : Kp w2 w4 := (hF23.step hF4 (fun j hj => .inr (by simp only [List.mem_singleton] at hj; omega))).kp
            clear hF4 hR4 hR3 ho4
            go_wp2_with fail
            go_roundw
            case rel => exact ⟨3, _, _, by omega, by go_num, (hP2.kp hk24).up (Nat.le_refl _) (tot_mono ss (by omega))⟩
            case measure => simp [intOf]; omega
          · have hk2 : ((k : Int) == 2) = false := by simp; omega
            go_wp2_with fail
            go_roundw
            case rel => exact ⟨k + 1, _, _, by omega, by go_num, hP2.up (Nat.le_refl _) (tot_mono ss (by omega))⟩
            case measure => simp [intOf]; omega
      · have hT : tot ss k ≤ 262144 := by
          by_cases hkk : k ≤ ss.length
          · exact Nat.le_trans (tot_mono ss hkk) htot
          · unfold tot at htot ⊢; rw [List.take_of_length_le (by omega)]; rw [List.take_of_length_le (Nat.le_refl _)] at htot; exact htot
        generalize tot ss k = T at hPk hT
        go_wp2_with fail
        (with_reducible refine (hPk.go 2 none 0 0 [] (Bs.zero _ _) (by simp only [List.length_nil]; omega)).mono ?_)
        rintro e w2 ⟨rfl, hP2⟩
        go_wp2_with fail
        (with_reducible refine (hP2.swap.go 2 none 0 0 [] (Bs.zero _ _) (by simp only [List.length_nil]; omega)).mono ?_)
        rintro e w3 ⟨rfl, hP3⟩
        go_wp2_with fail
        (with_reducible refine (hP3.swap.go 3 none 0 0 [] (Bs.zero _ _) (by simp only [List.length_nil]; omega)).mono ?_)
        rintro e w4 ⟨rfl, hP4⟩
        go_wp2_with fail
        (with_reducible refine (hP4.swap.go 3 none 0 0 [] (Bs.zero _ _) (by simp only [List.length_nil]; omega)).mono ?_)
        rintro e w5 ⟨rfl, hP5⟩
        have hk5 := hP5.keeps
        go_wp2_with fail
        (with_reducible refine (known_yes w5 a (Kp.err hk5 hH1)).mono ?_)
        rintro e w6 ⟨rfl, hk6⟩
        go_wp2_with fail
        go_ret
        exact ⟨rfl, Kp.trans hk1 (Kp.trans hk5 hk6)⟩
end Go.Proofs.YtkpdbdlkihgofaaDoor
