/- FramePlays, walked. Conditions: the list is a script (Sts); ErrLong is laid (HasErr). -/
import Derived.Test.YtkpdbdlkihgofaaDoorScript
namespace Go.Proofs.YtkpdbdlkihgofaaDoor
open Go.RowKit

/-- A pair made behind w0, at s and r, with T bytes fed. -/
def Plays (w0 : World) (s r T : Nat) (held : List UInt8) (w : World) : Prop := ∃ ao ho, Pr w s r ao ho held T ∧ Kp w0 w ∧ ∀ k ∈ foot s r ao ho, w0.heap.size ≤ k

theorem Plays.go {w0 w : World} {s r T : Nat} {held : List UInt8} (h : Plays w0 s r T held w) (kind : Int) (xo : Option Addr) (xn xc : Nat) (ys : List UInt8) (hy : Bs w0 xo xn ys) (hT : T + ys.length ≤ 1000000) :
    Calls Tryd.prog 17 #[.pointer (some ⟨s, 0, none⟩), .agg #[.int .i64 kind, .slice xo xn xc]] w fun e w' => e = .returned (.bool true) ∧ Plays w0 s r (T + ys.length) (heldStep kind ys held) w' := by
  obtain ⟨ao, ho, hP, hk, hf⟩ := h
  refine (hP.go hk hf kind xo xn xc ys hy hT).mono ?_
  rintro e w' ⟨rfl, ao', ho', h1, _, h2, _, h3⟩
  exact ⟨rfl, ao', ho', h1, h2, h3⟩
theorem Plays.new {w0 w : World} (hk : Kp w0 w) {b : Nat} (hb : b = w.heap.size) (e1 e2 : TypeId) : Plays w0 (b + 1) b 0 [] ((w.alloc (.cells #[.slice none 0 0, .int .i64 0] e1)).alloc (.cells #[.pointer (some ⟨b, 0, none⟩), .slice none 0 0] e2)) := by
  refine ⟨none, none, Pr.new hb e1 e2, Kp.trans hk ((Kp.new _ _).alloc (by simp) _), fun k hk2 => ?_⟩
  have := hk.size
  simp [foot, blkL, blk] at hk2
  omega
theorem Plays.keeps {w0 w : World} {s r T : Nat} {held : List UInt8} (h : Plays w0 s r T held w) : Kp w0 w := h.choose_spec.choose_spec.2.1
theorem Plays.kp {w0 w w' : World} {s r T : Nat} {held : List UInt8} (h : Plays w0 s r T held w) (k : Kp w w') : Plays w0 s r T held w' := by
  obtain ⟨ao, ho, hP, hk, hf⟩ := h
  exact ⟨ao, ho, hP.keep (Fr.of_kp k) (by simp), Kp.trans hk k, hf⟩
theorem Plays.up {w0 w : World} {s r T T' : Nat} {held : List UInt8} (h : Plays w0 s r T held w) (hT : T ≤ T') : Plays w0 s r T' held w := by
  obtain ⟨ao, ho, hP, hk, hf⟩ := h
  exact ⟨ao, ho, hP.up hT, hk, hf⟩

/-- How many bytes the reference holds, by the pair's cell. -/
def cnt (s : Nat) (w : World) : Nat := match w.cell? ⟨s, 1, none⟩ with
  | some (.slice _ n _) => n
  | _ => 0
theorem Plays.cnt {w0 w : World} {s r T : Nat} {held : List UInt8} (h : Plays w0 s r T held w) : cnt s w = held.length := by
  obtain ⟨ao, ho, ⟨hn, hc, c0, c1, f0, f1, hR, hB, _⟩, hk, hf⟩ := h
  unfold YtkpdbdlkihgofaaDoor.cnt
  rw [c1]
  exact hB.1.symm
theorem nextL_less {xs m rest : List UInt8} (h : nextL xs = some (m, rest)) : rest.length < xs.length := by
  obtain ⟨h1, h2, _⟩ := nextL_some h
  rw [h1, List.length_drop]
  omega

set_option maxHeartbeats 4000000 in
theorem framePlays_walk (w : World) (a : Addr) (hH : HasErr w a) (lo : Option Addr) (n c : Nat) (ss : List (Int × List UInt8)) (hs : Sts w lo n ss) :
    Calls Tryd.prog 4 #[.slice lo n c] w fun e w' => e = .returned (.bool true) ∧ Kp w w' := by
  have hn := hs.2.1
  unfold maxLen at hn
  go_enter Tryd.func4, Tryd.ntmps4
  go_wp2_with fail
  (with_reducible refine (script_any w lo n c ss hs).mono ?_)
  rintro e w1 ⟨b, rfl, hk1, hb⟩
  cases b with
  | true =>
    go_wp2_with fail
    go_ret
    exact ⟨rfl, hk1⟩
  | false =>
    obtain ⟨h400, htot⟩ := hb rfl
    have hs1 := Kp.sts hk1 hs
    have hH1 := Kp.err hk1 hH
    have hl := Lib.hid hs.1
    clear hs hb
    go_wp2_with fail
    have hP0 : Plays w1 (w1.heap.size + 1) w1.heap.size 0 [] _ := Plays.new (Kp.refl w1) rfl 39 43
    go_loopw [4] (fun i wr => ∃ (k : Nat) (held : List UInt8), k ≤ n ∧ i = .int .i64 k ∧ Plays w1 (w1.heap.size + 1) w1.heap.size (tot ss k) held wr) (fun i _ => n - (intOf i).toNat)
    case atStart => exact ⟨0, [], by omega, rfl, by rw [tot_zero]; exact hP0⟩
    case round =>
      obtain ⟨k, held, hk, rfl, hPk⟩ := hrel
      clear hP0
      by_cases hlt : k < n
      · have hkl : k < ss.length := by rw [hl.out]; exact hlt
        obtain ⟨b, off, xo, xn, xc, rfl, hc0, hc1, hB, _⟩ := hs1.2.2 k hkl
        have hkk : Kp w1 wr := hPk.choose_spec.choose_spec.2.1
        have hc0 := Kp.cell hkk hc0
        have hc1 := Kp.cell hkk hc1
        have ht1 := tot_succ ss k hkl
        have ht2 := tot_mono ss (show k + 1 ≤ ss.length by rw [hl.out]; exact hlt)
        have hgo := hPk.go ss[k].1 xo xn xc _ hB (by omega)
        rw [← ht1] at hgo
        clear ht1 ht2 hB
        go_wp2_with fail
        (with_reducible refine hgo.mono ?_)
        rintro e w2 ⟨rfl, hP2⟩
        go_wp2_with fail
        go_roundw
        case rel => exact ⟨k + 1, _, by omega, by go_num, hP2⟩
        case measure => simp [intOf]; omega
      · have hT : tot ss k ≤ 262144 := by
          by_cases hkk : k ≤ ss.length
          · exact Nat.le_trans (tot_mono ss hkk) htot
          · unfold tot at htot ⊢; rw [List.take_of_length_le (by omega)]; rw [List.take_of_length_le (Nat.le_refl _)] at htot; exact htot
        generalize tot ss k = T at hPk hT
        go_wp2_with fail
        go_loopw [6] (fun _ wr => ∃ held : List UInt8, Plays w1 (w1.heap.size + 1) w1.heap.size T held wr) (fun _ wr => cnt (w1.heap.size + 1) wr)
        case atStart => exact ⟨held, hPk⟩
        case round =>
          clear hPk
          obtain ⟨held, hPk⟩ := hrel
          have hcn := hPk.cnt
          have hP := hPk
          obtain ⟨ao, ho, ⟨hn, hc, c0, c1, f0, f1, hR, hB, hh, _⟩, _, _⟩ := hP
          clear hR c0 f0 f1
          have hrn := refNext_any _ ho hn hc held hB hh
          unfold RefNextPost at hrn
          cases hnx : nextL held with
          | none =>
            rw [hnx] at hrn
            go_wp2_with fail
            (with_reducible refine hrn.mono ?_)
            rintro e w2 ⟨hk2, rfl⟩
            have hP2 := hPk.kp hk2
            go_wp2_with fail
            (with_reducible refine ((hP2.kp (Kp.new _ _)).go 2 none 0 0 [] (Bs.zero _ _) (by simp only [List.length_nil]; omega)).mono ?_)
            rintro e w3 ⟨rfl, hP3⟩
            go_wp2_with fail
            (with_reducible refine (hP3.go 3 none 0 0 [] (Bs.zero _ _) (by simp only [List.length_nil]; omega)).mono ?_)
            rintro e w4 ⟨rfl, hP4⟩
            have hk4 := hP4.keeps
            go_wp2_with fail
            (with_reducible refine (known_yes w4 a (Kp.err hk4 hH1)).mono ?_)
            rintro e w5 ⟨rfl, hk5⟩
            go_wp2_with fail
            go_ret
            exact ⟨rfl, Kp.trans hk1 (Kp.trans hk4 hk5)⟩
          | some p =>
            obtain ⟨m, rest⟩ := p
            rw [hnx] at hrn
            go_wp2_with fail
            (with_reducible refine hrn.mono ?_)
            rintro e w2 ⟨hk2, ro, rcap, bo, bk, bc, rfl, _, _, _, _, _⟩
            have hP2 := hPk.kp hk2
            go_wp2_with fail
            (with_reducible refine ((hP2.kp (Kp.new _ _)).go 2 none 0 0 [] (Bs.zero _ _) (by simp only [List.length_nil]; omega)).mono ?_)
            rintro e w3 ⟨rfl, hP3⟩
            go_wp2_with fail
            (with_reducible refine (hP3.go 3 none 0 0 [] (Bs.zero _ _) (by simp only [List.length_nil]; omega)).mono ?_)
            rintro e w4 ⟨rfl, hP4⟩
            have hk4 := hP4.keeps
            go_wp2_with fail
            go_roundw
            case rel => exact ⟨_, hP4⟩
            case measure =>
              have h1 := nextL_less hnx
              rw [hP4.cnt, hcn]
              simpa [heldStep, hnx] using h1
end Go.Proofs.YtkpdbdlkihgofaaDoor
