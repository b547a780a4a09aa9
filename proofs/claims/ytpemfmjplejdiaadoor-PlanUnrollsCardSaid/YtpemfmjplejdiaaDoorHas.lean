/- Whether a number stands in a list; a token in a pattern; rows of moves one behind the other. Conditions: the lists lie there (Is, Lns, Mvs). -/
import Derived.Test.YtpemfmjplejdiaaDoorMoves
namespace Go.Proofs.YtpemfmjplejdiaaDoor
open Go.RowKit

def IdxPost (w : World) (xs : List Int) (x : Int) (e : Ending) (w' : World) : Prop := w = w' ∧ ∃ z : Int, e = .returned (iv z) ∧ decide (0 ≤ z) = xs.contains x

set_option maxHeartbeats 1000000 in
theorem index_any (w : World) (ao : Option Addr) (n c : Nat) (xs : List Int) (x : Int) (hx : Is w ao n xs) : Calls Tryd.prog 40 #[.slice ao n c, iv x] w (IdxPost w xs x) := by
  have hn := hx.2.1
  unfold maxLen at hn
  have Hl := Lib.hid hx.1
  go_enter Tryd.func40, Tryd.ntmps40
  go_wp2_with fail
  go_loop [8] (fun i => ∃ k : Nat, k ≤ n ∧ i = .int .i64 k ∧ ∀ j (h : j < xs.length), j < k → xs[j] ≠ x) (fun i => n - (intOf i).toNat)
  case atStart => exact ⟨0, by omega, rfl, by omega⟩
  case round =>
    obtain ⟨k, hk, rfl, hno⟩ := hrel
    have Hno := Lib.hid hno; clear hno
    by_cases hlt : k < n
    · obtain ⟨b, off, rfl, _, hc⟩ := hx.at k hlt
      have hck := hc k hlt
      have hkl : k < xs.length := by rw [Hl.out]; exact hlt
      obtain ⟨y, hy⟩ : ∃ y, y = xs[k] := ⟨_, rfl⟩
      rw [← hy] at hck
      have Hy := Lib.hid hy; clear hy hc
      by_cases hxy : x = y
      · have hb : (x == y) = true := by simp [hxy]
        have hpost : IdxPost w xs x (.returned (iv k)) w := ⟨rfl, k, rfl, by
          have : x ∈ xs := by rw [hxy, Hy.out]; exact List.getElem_mem _
          simp [this]⟩
        have Hpost := Lib.hid hpost; clear hpost hxy
        go_wp2_with fail
        go_ret
        exact Hpost.out
      · have hb : (x == y) = false := by simpa using hxy
        have hxy' : y ≠ x := fun h => hxy h.symm
        have Hxy := Lib.hid hxy'; clear hxy hxy'
        go_wp2_with fail
        go_round
        case rel =>
          refine ⟨k + 1, by omega, by go_num, fun j h hj => ?_⟩
          rcases Nat.lt_or_ge j k with g | g
          · exact Hno.out j h g
          · obtain rfl : j = k := by omega
            rw [← Hy.out]; exact Hxy.out
        case measure => simp [intOf]; omega
    · have hpost : IdxPost w xs x (.returned (iv (-1))) w := ⟨rfl, -1, rfl, by
        have : x ∉ xs := fun hm => by
          obtain ⟨j, hj, rfl⟩ := List.getElem_of_mem hm
          exact Hno.out j hj (by have := Hl.out; omega) rfl
        simp [this]⟩
      have Hpost := Lib.hid hpost; clear hpost
      go_wp2_with fail
      go_ret
      exact Hpost.out

/-- Does it stand in the list? -/
def inL (l : List Int) (x : Int) : Bool := l.contains x
theorem contains_any (w : World) (ao : Option Addr) (n c : Nat) (xs : List Int) (x : Int) (hx : Is w ao n xs) : Calls Tryd.prog 24 #[.slice ao n c, iv x] w fun e w' => e = .returned (.bool (inL xs x)) ∧ w = w' := by
  go_enter Tryd.func24, Tryd.ntmps24
  go_wp2_with fail
  (with_reducible refine (index_any w ao n c xs x hx).mono ?_)
  rintro e w1 ⟨rfl, z, rfl, hz⟩
  have Hz := Lib.hid hz; clear hz
  go_wp2_with fail
  go_ret
  exact ⟨by unfold inL; rw [← Hz.out]; rfl, rfl⟩

def hasL (ls : List Ln) (side tok : Int) : Bool := ls.any fun l => (decide (side < 0) || l.1 == side) && inL l.2 tok
theorem hasL_at (ls : List Ln) (side tok : Int) (k : Nat) (h : k < ls.length) : hasL (ls.drop k) side tok = (((decide (side < 0) || ls[k].1 == side) && inL ls[k].2 tok) || hasL (ls.drop (k + 1)) side tok) := by
  unfold hasL
  rw [drop_cons ls k h, List.any_cons]

set_option maxRecDepth 100000 in
set_option maxHeartbeats 2000000 in
theorem has_any (w : World) (nm : ByteArray) (a0 a1 al : Option Addr) (n0 c0 n1 c1 nl cl : Nat) (ls : List Ln) (side tok : Int) (hl : Lns w al nl ls) :
    Calls Tryd.prog 23 #[.agg #[.string nm, .slice a0 n0 c0, .slice a1 n1 c1, .slice al nl cl], iv side, iv tok] w fun e w' => e = .returned (.bool (hasL ls side tok)) ∧ Kp w w' := by
  have hnl := hl.2.1
  have Hll := Lib.hid hl.1
  go_enter Tryd.func23, Tryd.ntmps23
  go_wp2_with fail
  have hk0 := Kp.new w (.cells #[.string nm, .slice a0 n0 c0, .slice a1 n1 c1, .slice al nl cl] 26)
  generalize w.alloc (.cells #[.string nm, .slice a0 n0 c0, .slice a1 n1 c1, .slice al nl cl] 26) = wb at *
  go_loopw [12] (fun i wr => ∃ k : Nat, k ≤ nl ∧ i = .int .i64 k ∧ Kp w wr ∧ hasL ls side tok = hasL (ls.drop k) side tok) (fun i _ => nl - (intOf i).toNat)
  case atStart => exact ⟨0, by omega, rfl, hk0, rfl⟩
  case round =>
    clear hk0
    obtain ⟨k, hk, rfl, hkk, hrun⟩ := hrel
    have Hrun := Lib.hid hrun; clear hrun
    by_cases hlt : k < nl
    · have hkl : k < ls.length := by rw [Hll.out]; exact hlt
      obtain ⟨b, off, tp, tn, tc, rfl, hc1, hc2, hI, htn⟩ := hl.2.2 k hkl
      have hc1 := Kp.cell hkk hc1
      have hc2 := Kp.cell hkk hc2
      have hat := hasL_at ls side tok k hkl
      obtain ⟨f, ts, hft⟩ : ∃ f ts, ls[k] = (f, ts) := ⟨_, _, rfl⟩
      rw [hft] at hc1 hI hat
      have hI : Is w tp tn ts := hI
      have hc1 : wr.cell? ⟨b, off + k * 2, none⟩ = some (iv f) := hc1
      have Hat := Lib.hid hat; clear hat hft
      have hkn := Kp.trans hkk (Kp.new wr (.cells #[iv f, .slice tp tn tc] 53))
      have hIn := Kp.is hkn hI
      by_cases hsel : (decide (side < 0) || f == side) = true
      · have hq : ∀ q : Bool, (decide (side < 0) || f == side) = q → q = true → True := fun _ _ _ => trivial
        clear hq
        cases hcc : inL ts tok with
        | true =>
          have HF := Lib.hid (show hasL ls side tok = true by rw [Hrun.out, Hat.out]; simp only [hsel, hcc]; rfl)
          by_cases hs0 : side < 0
          · clear hsel
            go_wp2_with fail
            (with_reducible refine (contains_any _ tp tn tc ts tok hIn).mono ?_)
            rintro e w2 ⟨rfl, rfl⟩
            rw [hcc]; clear hcc
            go_wp2_with fail
            go_ret
            exact ⟨by rw [HF.out]; rfl, hkn⟩
          · have hfs : (f == side) = true := by simpa [hs0] using hsel
            clear hsel
            go_wp2_with fail
            (with_reducible refine (contains_any _ tp tn tc ts tok hIn).mono ?_)
            rintro e w2 ⟨rfl, rfl⟩
            rw [hcc]; clear hcc
            go_wp2_with fail
            go_ret
            exact ⟨by rw [HF.out]; rfl, hkn⟩
        | false =>
          have HF := Lib.hid (show hasL ls side tok = hasL (ls.drop (k + 1)) side tok by rw [Hrun.out, Hat.out]; simp only [hsel, hcc]; rfl)
          by_cases hs0 : side < 0
          · clear hsel
            go_wp2_with fail
            (with_reducible refine (contains_any _ tp tn tc ts tok hIn).mono ?_)
            rintro e w2 ⟨rfl, rfl⟩
            rw [hcc]; clear hcc
            go_wp2_with fail
            go_roundw
            case rel => exact ⟨k + 1, by omega, by go_num, hkn, HF.out⟩
            case measure => simp [intOf]; omega
          · have hfs : (f == side) = true := by simpa [hs0] using hsel
            clear hsel
            go_wp2_with fail
            (with_reducible refine (contains_any _ tp tn tc ts tok hIn).mono ?_)
            rintro e w2 ⟨rfl, rfl⟩
            rw [hcc]; clear hcc
            go_wp2_with fail
            go_roundw
            case rel => exact ⟨k + 1, by omega, by go_num, hkn, HF.out⟩
            case measure => simp [intOf]; omega
      · have hself : (decide (side < 0) || f == side) = false := by simpa using hsel
        have HF := Lib.hid (show hasL ls side tok = hasL (ls.drop (k + 1)) side tok by rw [Hrun.out, Hat.out, hself]; rfl)
        simp only [Bool.or_eq_false_iff, decide_eq_false_iff_not] at hself
        obtain ⟨hs0, hfs⟩ := hself
        clear hsel
        go_wp2_with fail
        go_roundw
        case rel => exact ⟨k + 1, by omega, by go_num, hkn, HF.out⟩
        case measure => simp [intOf]; omega
    · have HF := Lib.hid (show hasL ls side tok = false by rw [Hrun.out, List.drop_of_length_le (by rw [Hll.out]; omega)]; rfl)
      go_wp2_with fail
      go_ret
      exact ⟨by rw [HF.out]; rfl, hkk⟩
end Go.Proofs.YtpemfmjplejdiaaDoor
