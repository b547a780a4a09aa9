/- Words with blanks between, as tokens. Condition: the text is no longer than 1000. -/
import Derived.Test.YtpemfmjplejdiaaDoorSplit
namespace Go.Proofs.YtpemfmjplejdiaaDoor
open Go.RowKit

def wordL (t : Nat) : ByteArray :=
  if t = 1 then ⟨#[101]⟩ else if t = 2 then ⟨#[115]⟩ else if t = 3 then ⟨#[101, 101]⟩ else if t = 4 then ⟨#[101, 115]⟩ else if t = 5 then ⟨#[115, 101]⟩ else if t = 6 then ⟨#[115, 115]⟩ else ⟨#[112, 115, 107]⟩
set_option maxHeartbeats 1000000 in
theorem word_any (w : World) (t : Nat) (h1 : 1 ≤ t) (h7 : t ≤ 7) : Calls Tryd.prog 55 #[iv (t : Int)] w fun e w' => e = .returned (.string (wordL t)) ∧ w' = w := by
  rcases (show t = 1 ∨ t = 2 ∨ t = 3 ∨ t = 4 ∨ t = 5 ∨ t = 6 ∨ t = 7 by omega) with rfl | rfl | rfl | rfl | rfl | rfl | rfl
  all_goals
    go_enter Tryd.func55, Tryd.ntmps55
    go_wp2
    go_ret
    exact ⟨rfl, rfl⟩

def tokOf (x : ByteArray) : Nat → List Int
  | 0 => []
  | j + 1 => tokOf x j ++ (if ((wordL (j + 1)).toList == x.toList) = true then [((j + 1 : Nat) : Int)] else [])
def tokL (s : ByteArray) : List Int := if s.size = 0 then [] else (splitL s 32).flatMap (tokOf · 7)
def TokPost (w : World) (xs : List Int) (e : Ending) (w' : World) : Prop := Kp w w' ∧ ∃ ao n cap, e = .returned (.slice ao n cap) ∧ Is w' ao n xs ∧ n ≤ 7007 ∧ n ≤ cap ∧ ∀ k ∈ blkL ao, w.heap.size ≤ k ∧ k < w'.heap.size
theorem Own.is {w : World} {base : Nat} {e : TypeId} {ao : Option Addr} {n cap : Nat} {xs : List Int} (h : Own w base e 1 ao n cap (xs.map iv)) : Is w ao n xs := by
  have hl := h.1
  refine ⟨by simpa using hl, ?_, h.cs⟩
  rcases h.2 with ⟨_, hn⟩ | ⟨g, cap', cur, hv, _, _, h1, h2, _⟩
  · omega
  · exact Nat.le_trans h1 h2
theorem empty_iff (s : ByteArray) : s.toList.isEmpty = decide (s.size = 0) := by
  rw [ByteArray.toList_eq]
  show s.data.toList.isEmpty = decide (s.data.size = 0)
  rw [← Array.length_toList]
  cases s.data.toList <;> simp

set_option maxRecDepth 100000 in
set_option maxHeartbeats 4000000 in
theorem tokens_any (w : World) (s : ByteArray) (hs : s.size ≤ 1000) : Calls Tryd.prog 52 #[.string s] w (TokPost w (tokL s)) := by
  by_cases h0 : s.size = 0
  · have hpost : TokPost w (tokL s) (.returned (.slice none 0 0)) w := ⟨Kp.refl _, none, 0, 0, rfl, by unfold tokL; rw [if_pos h0]; exact Is.zero _ _, by omega, by omega, fun k hk => by simp [blkL, blk] at hk⟩
    have Hpost := Lib.hid hpost
    have hb : s.toList.isEmpty = true := by rw [empty_iff, h0]; rfl
    clear hpost h0
    go_enter Tryd.func52, Tryd.ntmps52
    go_wp2_with fail
    go_ret
    exact Hpost.out
  · have hb : s.toList.isEmpty = false := by rw [empty_iff]; simpa using h0
    have hsp := split_any w s 32 hs
    rw [show ((UInt8.toNat 32 : Nat) : Int) = 32 from rfl] at hsp
    have Hsp := Lib.hid hsp; clear hsp
    have HT := Lib.hid (show tokL s = (splitL s 32).flatMap (tokOf · 7) by unfold tokL; rw [if_neg h0])
    clear h0
    go_enter Tryd.func52, Tryd.ntmps52
    go_wp2_with fail
    (with_reducible refine Hsp.out.mono ?_)
    rintro e w1 ⟨hk1, bo, m, bc, rfl, hS, _⟩
    have hm : m ≤ 1001 := by rw [← hS.1]; have := (splitTo_le s 32 (s.size + 1)).2; unfold splitL; omega
    obtain ⟨ss, hss⟩ : ∃ ss, ss = splitL s 32 := ⟨_, rfl⟩
    rw [← hss] at hS HT
    clear hss
    have Hl := Lib.hid hS.1
    go_wp2_with fail
    go_loopw [3, 5] (fun l i wr => ∃ k n cap ao, k ≤ m ∧ i = .int .i64 (k : Nat) ∧ l = .slice ao n cap ∧ n ≤ 7 * k ∧ Own wr w1.heap.size 3 1 ao n cap (((ss.take k).flatMap (tokOf · 7)).map iv) ∧ Kp w1 wr) (fun _ i _ => m - (intOf i).toNat)
    case atStart => exact ⟨0, 0, 0, none, by omega, rfl, rfl, by omega, Own.nil _ _ _ _, Kp.refl _⟩
    case round =>
      obtain ⟨k, n, cap, ao, hk, rfl, rfl, hn, hO, hkk⟩ := hrel
      by_cases hlt : k < m
      · obtain ⟨b, off, rfl, hcc⟩ := hS.at k hlt
        have hck := hcc k hlt
        have hkl : k < ss.length := by rw [Hl.out]; exact hlt
        have hsucc := flatMap_take (tokOf · 7) ss k hkl
        clear hcc
        generalize ss[k]'hkl = x at hck hsucc
        have Hsucc := Lib.hid hsucc; clear hsucc
        have hO0 : Own wr w1.heap.size 3 1 ao n cap ((((ss.take k).flatMap (tokOf · 7)) ++ tokOf x 0).map iv) := by rw [show tokOf x 0 = [] from rfl, List.append_nil]; exact hO
        obtain ⟨X, hX⟩ : ∃ X, X = (ss.take k).flatMap (tokOf · 7) := ⟨_, rfl⟩
        rw [← hX] at hO0 Hsucc
        clear hX hO
        obtain ⟨wo, rfl⟩ : ∃ wo : World, wo = wr := ⟨_, rfl⟩
        go_wp2_with fail
        go_loopw [3, 6] (fun l i wr => ∃ j n cap ao, j ≤ 7 ∧ i = .int .i64 ((j + 1 : Nat) : Int) ∧ l = .slice ao n cap ∧ n ≤ 7 * k + j ∧ Own wr w1.heap.size 3 1 ao n cap ((X ++ tokOf x j).map iv) ∧ Kp w1 wr) (fun _ i _ => 8 - (intOf i).toNat)
        case atStart => exact ⟨0, n, cap, ao, by omega, rfl, rfl, by omega, hO0, hkk⟩
        case round =>
          clear hO0 hkk hn
          obtain ⟨j, n, cap, ao, hj, rfl, rfl, hn, hO, hkk⟩ := hrel
          have hck := Kp.cell hkk hck
          by_cases hj7 : j < 7
          · have Hstep := Lib.hid (show tokOf x (j + 1) = tokOf x j ++ (if ((wordL (j + 1)).toList == x.toList) = true then [((j + 1 : Nat) : Int)] else []) from rfl)
            have Hw := Lib.hid (show ∀ q, Calls Tryd.prog 55 #[iv ((j + 1 : Nat) : Int)] (wr.drewN q) fun e w' => e = .returned (.string (wordL (j + 1))) ∧ w' = wr.drewN q from fun q => word_any (wr.drewN q) (j + 1) (by omega) (by omega))
            cases hq : (wordL (j + 1)).toList == x.toList with
            | true =>
              have Hs2 := Lib.hid (show (X ++ tokOf x (j + 1)).map iv = (X ++ tokOf x j).map iv ++ [iv ((j : Int) + 1)] by rw [Hstep.out, hq]; simp)
              go_wp2_with fail
              go_quiet ((go_at_call 55; exact Calls.quiet_of_same (Hw.out _)))
              have hOq := hO.keep (Kp.of_drewN wr nq)
              have hkq := Kp.trans hkk (Kp.of_drewN wr nq)
              clear hO
              go_wp2_with (at_builtin; refine wpList_app rfl (.tmp 28) (.tmp 30) 22 rfl el22 w1.heap.size rfl (hOq.keep (Kp.new _ _)) rfl [iv ((j : Int) + 1)] rfl (Cs.new (wr.drewN nq) [iv ((j : Int) + 1)] 3 (0, 0)) (by simp [Value.oneCell']) (n + 1) rfl ((X ++ tokOf x (j + 1)).map iv) Hs2.out (by omega) (Nat.le_trans hkq.size (by simp)) ?_; intro ao2 cap2 w2 ha)
              have hk2 : Kp w1 w2 := kp_own hkq (Kp.new _ _) hOq ha
              have hO2 := ha.own
              clear ha
              go_roundw
              case rel => exact ⟨j + 1, n + 1, cap2, ao2, by omega, by go_num, rfl, by omega, hO2, hk2⟩
              case measure => simp [intOf]; omega
            | false =>
              have Hs2 := Lib.hid (show tokOf x (j + 1) = tokOf x j by rw [Hstep.out, hq]; simp)
              go_wp2_with fail
              go_quiet ((go_at_call 55; exact Calls.quiet_of_same (Hw.out _)))
              have hOq := hO.keep (Kp.of_drewN wr nq)
              have hkq := Kp.trans hkk (Kp.of_drewN wr nq)
              clear hO
              go_wp2_with fail
              go_roundw
              case rel => exact ⟨j + 1, n, cap, ao, by omega, by go_num, rfl, by omega, by rw [Hs2.out]; exact hOq, hkq⟩
              case measure => simp [intOf]; omega
          · obtain rfl : j = 7 := by omega
            have hfin : Own wr w1.heap.size 3 1 ao n cap (((ss.take (k + 1)).flatMap (tokOf · 7)).map iv) := by rw [Hsucc.out]; exact hO
            have Hfin := Lib.hid hfin
            clear hfin hO
            go_wp2_with fail
            go_roundw
            case rel => exact ⟨k + 1, n, cap, ao, by omega, by go_num, rfl, by omega, Hfin.out, hkk⟩
            case measure => simp [intOf]; omega
      · obtain rfl : k = ss.length := by rw [Hl.out]; omega
        rw [List.take_of_length_le (Nat.le_refl _), ← HT.out] at hO
        have hpost : TokPost w (tokL s) (.returned (.slice ao n cap)) wr := ⟨Kp.trans hk1 hkk, ao, n, cap, rfl, hO.is, by omega, hO.cap, fun k hk => ⟨Nat.le_trans hk1.size (hO.lt k (mem_blkL.1 hk)).1, (hO.lt k (mem_blkL.1 hk)).2⟩⟩
        have Hpost := Lib.hid hpost
        clear hpost hO
        have hml : m = ss.length := Hl.out.symm
        subst hml
        go_wp2_with fail
        go_ret
        exact Hpost.out
end Go.Proofs.YtpemfmjplejdiaaDoor
