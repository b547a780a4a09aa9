/- A text at each byte c. Condition: it is no longer than 1000. -/
import Derived.Test.YtpemfmjplejdiaaDoorLarge
namespace Go.Proofs.YtpemfmjplejdiaaDoor
open Go.RowKit

/-- A slice value's parts read a list of strings. -/
def Strs (w : World) (ao : Option Addr) (n : Nat) (ss : List ByteArray) : Prop := ss.length = n ∧ n ≤ maxLen ∧ Cs w ao (ss.map .string)
theorem Kp.strs {w w' : World} (h : Kp w w') {ao : Option Addr} {n : Nat} {ss : List ByteArray} (hx : Strs w ao n ss) : Strs w' ao n ss := ⟨hx.1, hx.2.1, h.cs hx.2.2⟩
theorem Strs.at {w : World} {ao : Option Addr} {n : Nat} {ss : List ByteArray} (h : Strs w ao n ss) (k : Nat) (hk : k < n) :
    ∃ b off, ao = some ⟨b, off, none⟩ ∧ ∀ j, (hj : j < n) → w.cell? ⟨b, off + j, none⟩ = some (.string (ss[j]'(by rw [h.1]; exact hj))) := by
  obtain ⟨h1, _, h2⟩ := h
  obtain ⟨b, off, rfl, hc⟩ := h2.at k (by simp; omega)
  exact ⟨b, off, rfl, fun j hj => hc j _ (by simp [show j < ss.length by omega])⟩

def cutAt (s : ByteArray) (c : UInt8) (k : Nat) : Bool := k == s.size || (s.data.toList.getD k 0 == c)
def splitTo (s : ByteArray) (c : UInt8) : Nat → List ByteArray × Nat
  | 0 => ([], 0)
  | k + 1 => if cutAt s c k then ((splitTo s c k).1 ++ [s.extract (splitTo s c k).2 k], k + 1) else splitTo s c k
def splitL (s : ByteArray) (c : UInt8) : List ByteArray := (splitTo s c (s.size + 1)).1
theorem splitTo_le (s : ByteArray) (c : UInt8) (k : Nat) : (splitTo s c k).2 ≤ k ∧ (splitTo s c k).1.length ≤ k := by
  induction k with
  | zero => exact ⟨Nat.le_refl _, Nat.le_refl _⟩
  | succ k ih =>
    unfold splitTo
    split
    · exact ⟨Nat.le_refl _, by simp; omega⟩
    · omega
theorem el100 : El Tryd.prog 100 9 (.string ⟨#[]⟩) 1 16 := ⟨Tryd.underlying100, by kernel_rfl, rfl, by decide, by decide⟩
def SplitPost (w : World) (ss : List ByteArray) (e : Ending) (w' : World) : Prop := Kp w w' ∧ ∃ ao n cap, e = .returned (.slice ao n cap) ∧ Strs w' ao n ss ∧ ∀ k ∈ blkL ao, w.heap.size ≤ k
theorem Own.strs {w : World} {base : Nat} {e : TypeId} {ao : Option Addr} {n cap : Nat} {ss : List ByteArray} (h : Own w base e 1 ao n cap (ss.map .string)) : Strs w ao n ss := by
  have hl := h.1
  refine ⟨by simpa using hl, ?_, h.cs⟩
  rcases h.2 with ⟨_, hn⟩ | ⟨g, cap', cur, hv, _, _, h1, h2, _⟩
  · omega
  · exact Nat.le_trans h1 h2

theorem getD_byte {s : ByteArray} {k : Nat} (h : k < s.size) : s.data.toList.getD k 0 = s[k]'h := by
  have h' : k < s.data.toList.length := by simpa using h
  rw [List.getD, List.getElem?_eq_getElem h']
  rfl
theorem byte_at {s : ByteArray} {c : UInt8} {k : Nat} (h : k < s.size) (hc : cutAt s c k = true) (hk : ¬ k = s.size) : (((s[k]'h).toNat : Int) == (c.toNat : Int)) = true := by
  unfold cutAt at hc
  rw [getD_byte h, Bool.or_eq_true, beq_iff_eq, beq_iff_eq] at hc
  rcases hc with hc | hc
  · exact absurd hc hk
  · rw [hc]; simp
theorem byte_not {s : ByteArray} {c : UInt8} {k : Nat} (h : k < s.size) (hc : cutAt s c k = false) : (((s[k]'h).toNat : Int) == (c.toNat : Int)) = false := by
  unfold cutAt at hc
  rw [getD_byte h, Bool.or_eq_false_iff] at hc
  have h2 : s[k]'h ≠ c := by simpa using hc.2
  cases hq : (((s[k]'h).toNat : Int) == (c.toNat : Int)) with
  | false => rfl
  | true => exact absurd (UInt8.toNat_inj.1 (by have := beq_iff_eq.1 hq; omega)) h2
theorem kp_step' {w0 w w' : World} {X : List Nat} (hk : Kp w0 w) (k : Fr X w w') (h : ∀ j ∈ X, w0.heap.size ≤ j) : Kp w0 w' := ((Fr.of_kp hk).step k (fun j hj => .inr (h j hj))).kp
theorem kp_own {w wr wr1 w2 : World} (h : Kp w wr) (k : Kp wr wr1) {e : TypeId} {ao ao2 : Option Addr} {n cap m N cap2 : Nat} {xs zs : List Value} (hO : Own wr w.heap.size e 1 ao n cap xs) (a : Appd wr1 w2 w.heap.size e 1 ao cap m N zs ao2 cap2) : Kp w w2 :=
  kp_step' (Kp.trans h k) a.fr (fun j hj => (hO.lt j (mem_blkL.1 hj)).1)
set_option maxRecDepth 100000 in
set_option maxHeartbeats 4000000 in
theorem split_any (w : World) (s : ByteArray) (c : UInt8) (hs : s.size ≤ 1000) : Calls Tryd.prog 51 #[.string s, .int .u8 (c.toNat : Int)] w (SplitPost w (splitL s c)) := by
  have hc := c.toNat_lt
  go_enter Tryd.func51, Tryd.ntmps51
  go_wp2_with fail
  go_loopw [5, 6, 7] (fun l at_ i wr => ∃ k n cap p ao, k ≤ s.size + 1 ∧ i = .int .i64 (k : Nat) ∧ at_ = .int .i64 (p : Nat) ∧ p = (splitTo s c k).2 ∧ l = .slice ao n cap ∧ n ≤ k ∧ Own wr w.heap.size 9 1 ao n cap ((splitTo s c k).1.map .string) ∧ Kp w wr) (fun _ _ i _ => s.size + 1 - (intOf i).toNat)
  case atStart => exact ⟨0, 0, 0, 0, none, by omega, rfl, rfl, rfl, rfl, by omega, Own.nil _ _ _ _, Kp.refl _⟩
  case round =>
    obtain ⟨k, n, cap, p, ao, hk, rfl, rfl, hp, rfl, hn, hO, hkk⟩ := hrel
    have hle := (splitTo_le s c k).1
    rw [← hp] at hle
    have Hp := Lib.hid hp; clear hp
    by_cases hlt : k ≤ s.size
    · have hstep : splitTo s c (k + 1) = if cutAt s c k then ((splitTo s c k).1 ++ [s.extract p k], k + 1) else splitTo s c k := by
        rw [Hp.out]; rfl
      have Hstep := Lib.hid hstep; clear hstep
      cases hcut : cutAt s c k with
      | true =>
        have H1 := Lib.hid (show (splitTo s c (k + 1)).1 = (splitTo s c k).1 ++ [s.extract p k] by rw [Hstep.out, hcut]; rfl)
        have H2 := Lib.hid (show (splitTo s c (k + 1)).2 = k + 1 by rw [Hstep.out, hcut]; rfl)
        have Hz := Lib.hid (show ((splitTo s c (k + 1)).1.map Value.string) = (splitTo s c k).1.map Value.string ++ [.string (s.extract p k)] by rw [H1.out]; simp)
        by_cases hks : k = s.size
        · have hb : ((k : Int) == (s.size : Int)) = true := by simp [hks]
          clear hcut hks
          go_wp2_with (at_builtin; refine wpList_app rfl (.tmp 25) (.tmp 30) 100 rfl el100 w.heap.size rfl (hO.keep (Kp.new _ _)) rfl [.string (s.extract p k)] rfl (Cs.new wr [.string (s.extract p k)] 9 (0, 0)) (by simp [Value.oneCell']) (n + 1) rfl ((splitTo s c (k + 1)).1.map .string) Hz.out (by omega) (Nat.le_trans hkk.size (by simp)) ?_; intro ao2 cap2 w2 ha)
          have hk2 : Kp w w2 := kp_own hkk (Kp.new wr (.cells #[.string (s.extract p k)] 9)) hO ha
          have hO2 := ha.own
          clear ha
          go_roundw
          case rel => exact ⟨k + 1, n + 1, cap2, k + 1, ao2, by omega, by go_num, by go_num, H2.out.symm, rfl, by omega, hO2, hk2⟩
          case measure => simp [intOf]; omega
        · have hk1 : k < s.size := by omega
          have hb : ((k : Int) == (s.size : Int)) = false := by simp; omega
          have hb2 : (((s[k]'hk1).toNat : Int) == (c.toNat : Int)) = true := byte_at hk1 hcut hks
          clear hcut hks
          go_wp2_with (at_builtin; refine wpList_app rfl (.tmp 25) (.tmp 30) 100 rfl el100 w.heap.size rfl (hO.keep (Kp.new _ _)) rfl [.string (s.extract p k)] rfl (Cs.new wr [.string (s.extract p k)] 9 (0, 0)) (by simp [Value.oneCell']) (n + 1) rfl ((splitTo s c (k + 1)).1.map .string) Hz.out (by omega) (Nat.le_trans hkk.size (by simp)) ?_; intro ao2 cap2 w2 ha)
          have hk2 : Kp w w2 := kp_own hkk (Kp.new wr (.cells #[.string (s.extract p k)] 9)) hO ha
          have hO2 := ha.own
          clear ha
          go_roundw
          case rel => exact ⟨k + 1, n + 1, cap2, k + 1, ao2, by omega, by go_num, by go_num, H2.out.symm, rfl, by omega, hO2, hk2⟩
          case measure => simp [intOf]; omega
      | false =>
        have H1 := Lib.hid (show splitTo s c (k + 1) = splitTo s c k by rw [Hstep.out, hcut]; rfl)
        have hks : k ≠ s.size := fun h => by simp [cutAt, h] at hcut
        have hk1 : k < s.size := by omega
        have hb : ((k : Int) == (s.size : Int)) = false := by simp; omega
        have hb2 : (((s[k]'hk1).toNat : Int) == (c.toNat : Int)) = false := byte_not hk1 hcut
        clear hcut hks
        go_wp2_with fail
        go_roundw
        case rel => exact ⟨k + 1, n, cap, p, ao, by omega, by go_num, rfl, by rw [H1.out]; exact Hp.out, rfl, by omega, by rw [H1.out]; exact hO, hkk⟩
        case measure => simp [intOf]; omega
    · obtain rfl : k = s.size + 1 := by omega
      have hpost : SplitPost w (splitL s c) (.returned (.slice ao n cap)) wr := ⟨hkk, ao, n, cap, rfl, hO.strs, fun k hk => (hO.lt k (mem_blkL.1 hk)).1⟩
      have Hpost := Lib.hid hpost; clear hpost hO
      go_wp2_with fail
      go_ret
      exact Hpost.out
end Go.Proofs.YtpemfmjplejdiaaDoor
