/- Parts of the walks and plain laws, merged: TxtA, TxtB. Each theorem bears its own conditions; no other. -/
import Derived.Test.YtjbjgpcldcpjmaaDoorGa1
import Derived.Test.YtjbjgpcldcpjmaaDoorShelf
namespace Go.Proofs.YtjbjgpcldcpjmaaDoor
open Go.RowKit

abbrev iv' (z : Int) : Value := .int .i64 z
def wordsV : Array Value := #[.string ⟨#[]⟩, .string ⟨#[101]⟩, .string ⟨#[115]⟩, .string ⟨#[101, 101]⟩, .string ⟨#[101, 115]⟩, .string ⟨#[115, 101]⟩, .string ⟨#[115, 115]⟩, .string ⟨#[112, 115, 107]⟩]
theorem words_any (w : World) : Calls Tryd.prog 79 #[] w fun e w' => e = .returned (.agg wordsV) ∧ Kp w w' := by
  go_enter Tryd.func79, Tryd.ntmps79
  go_wp2_with fail
  refine bodyPost_ret (v := .agg wordsV) (by simp [results, Tryd.results79, go_sem, wordsV]) rfl ⟨rfl, Kp.new _ _⟩

/-- What a reader gives up with. -/
def badE : Ending := .panicked [{ v := .iface 107 (.agg #[]), recovered := false }]
theorem ask_true (w : World) : Calls Tryd.prog 59 #[.bool true] w fun e w' => e = .returned (.tuple #[]) ∧ w = w' := by
  go_enter Tryd.func59, Tryd.ntmps59
  go_wp2_with fail
  go_end0
  exact ⟨rfl, rfl⟩
theorem ask_false (w : World) : Calls Tryd.prog 59 #[.bool false] w fun e w' => e = badE ∧ w = w' := by
  go_enter Tryd.func59, Tryd.ntmps59
  go_wp2_with fail
  exact ⟨rfl, rfl, rfl⟩

/-- What reading a word leaves. -/
def TokPost (w : World) (l : Q.Bt) (e : Ending) (w' : World) : Prop := (match Q.wordT l with | some t => e = .returned (iv' t) | none => e = badE) ∧ Kp w w'
def Nots (l : Q.Bt) (k : Nat) : Prop := ∀ j : Nat, 1 ≤ j → j < k → Q.tokW (j : Int) ≠ l
theorem nots_step {l : Q.Bt} {k : Nat} (h : Nots l k) (hk : Q.tokW (k : Int) ≠ l) : Nots l (k + 1) := fun j h1 h2 => by
  rcases Nat.lt_or_ge j k with q | q
  · exact h j h1 q
  · obtain rfl : j = k := by omega
    exact hk
theorem nots_none {l : Q.Bt} (h : Nots l 8) : Q.wordT l = none := by
  cases hq : Q.wordT l with
  | none => rfl
  | some t =>
    obtain ⟨a, b, c⟩ := Q.wordT_some hq
    exact absurd (by rw [show ((t.toNat : Nat) : Int) = t by omega]; exact a) (h t.toNat (by omega) (by omega))

set_option maxHeartbeats 4000000 in
theorem token_any (s : ByteArray) (w : World) : Calls Tryd.prog 70 #[.string s] w (TokPost w s.data.toList) := by
  go_enter Tryd.func70, Tryd.ntmps70
  go_wp2_with fail
  (with_reducible refine (words_any w).mono ?_)
  rintro e w1 ⟨rfl, hk1⟩
  have Hk := Lib.hid (Kp.trans hk1 (Kp.new w1 (.cells wordsV 125)))
  unfold wordsV at Hk ⊢
  clear hk1
  go_wp2_with fail
  go_loopw [4] (fun i wr => ∃ k : Nat, 1 ≤ k ∧ k ≤ 8 ∧ i = .int .i64 (k : Nat) ∧ w1.alloc (.cells #[.string ⟨#[]⟩, .string ⟨#[101]⟩, .string ⟨#[115]⟩, .string ⟨#[101, 101]⟩, .string ⟨#[101, 115]⟩, .string ⟨#[115, 101]⟩, .string ⟨#[115, 115]⟩, .string ⟨#[112, 115, 107]⟩] 125) = wr ∧ Nots s.data.toList k) (fun i _ => 8 - (intOf i).toNat)
  case atStart => exact ⟨1, by omega, by omega, rfl, rfl, fun j h1 h2 => by omega⟩
  case round =>
    obtain ⟨k, hk1, hk8, rfl, rfl, hn⟩ := hrel
    have Hn := Lib.hid hn
    clear hn
    rcases (show k = 1 ∨ k = 2 ∨ k = 3 ∨ k = 4 ∨ k = 5 ∨ k = 6 ∨ k = 7 ∨ k = 8 by omega) with rfl | rfl | rfl | rfl | rfl | rfl | rfl | rfl
    · cases hq : ([101] == s.toList) with
      | true =>
        have Hy := Lib.hid (show TokPost w s.data.toList (.returned (iv' 1)) _ from ⟨by rw [← Lib.toList_data, ← beq_iff_eq.1 hq]; rfl, Hk.out⟩)
        go_wp2_with fail
        go_ret
        exact Hy.out
      | false =>
        have Hy := Lib.hid (nots_step (k := 1) Hn.out (fun e => by rw [← Lib.toList_data] at e; rw [← e] at hq; revert hq; decide))
        go_wp2_with fail
        go_roundw
        case rel => exact ⟨2, by omega, by omega, by go_num, trivial, Hy.out⟩
        case measure => simp [intOf]
    · cases hq : ([115] == s.toList) with
      | true =>
        have Hy := Lib.hid (show TokPost w s.data.toList (.returned (iv' 2)) _ from ⟨by rw [← Lib.toList_data, ← beq_iff_eq.1 hq]; rfl, Hk.out⟩)
        go_wp2_with fail
        go_ret
        exact Hy.out
      | false =>
        have Hy := Lib.hid (nots_step (k := 2) Hn.out (fun e => by rw [← Lib.toList_data] at e; rw [← e] at hq; revert hq; decide))
        go_wp2_with fail
        go_roundw
        case rel => exact ⟨3, by omega, by omega, by go_num, trivial, Hy.out⟩
        case measure => simp [intOf]
    · cases hq : ([101, 101] == s.toList) with
      | true =>
        have Hy := Lib.hid (show TokPost w s.data.toList (.returned (iv' 3)) _ from ⟨by rw [← Lib.toList_data, ← beq_iff_eq.1 hq]; rfl, Hk.out⟩)
        go_wp2_with fail
        go_ret
        exact Hy.out
      | false =>
        have Hy := Lib.hid (nots_step (k := 3) Hn.out (fun e => by rw [← Lib.toList_data] at e; rw [← e] at hq; revert hq; decide))
        go_wp2_with fail
        go_roundw
        case rel => exact ⟨4, by omega, by omega, by go_num, trivial, Hy.out⟩
        case measure => simp [intOf]
    · cases hq : ([101, 115] == s.toList) with
      | true =>
        have Hy := Lib.hid (show TokPost w s.data.toList (.returned (iv' 4)) _ from ⟨by rw [← Lib.toList_data, ← beq_iff_eq.1 hq]; rfl, Hk.out⟩)
        go_wp2_with fail
        go_ret
        exact Hy.out
      | false =>
        have Hy := Lib.hid (nots_step (k := 4) Hn.out (fun e => by rw [← Lib.toList_data] at e; rw [← e] at hq; revert hq; decide))
        go_wp2_with fail
        go_roundw
        case rel => exact ⟨5, by omega, by omega, by go_num, trivial, Hy.out⟩
        case measure => simp [intOf]
    · cases hq : ([115, 101] == s.toList) with
      | true =>
        have Hy := Lib.hid (show TokPost w s.data.toList (.returned (iv' 5)) _ from ⟨by rw [← Lib.toList_data, ← beq_iff_eq.1 hq]; rfl, Hk.out⟩)
        go_wp2_with fail
        go_ret
        exact Hy.out
      | false =>
        have Hy := Lib.hid (nots_step (k := 5) Hn.out (fun e => by rw [← Lib.toList_data] at e; rw [← e] at hq; revert hq; decide))
        go_wp2_with fail
        go_roundw
        case rel => exact ⟨6, by omega, by omega, by go_num, trivial, Hy.out⟩
        case measure => simp [intOf]
    · cases hq : ([115, 115] == s.toList) with
      | true =>
        have Hy := Lib.hid (show TokPost w s.data.toList (.returned (iv' 6)) _ from ⟨by rw [← Lib.toList_data, ← beq_iff_eq.1 hq]; rfl, Hk.out⟩)
        go_wp2_with fail
        go_ret
        exact Hy.out
      | false =>
        have Hy := Lib.hid (nots_step (k := 6) Hn.out (fun e => by rw [← Lib.toList_data] at e; rw [← e] at hq; revert hq; decide))
        go_wp2_with fail
        go_roundw
        case rel => exact ⟨7, by omega, by omega, by go_num, trivial, Hy.out⟩
        case measure => simp [intOf]
    · cases hq : ([112, 115, 107] == s.toList) with
      | true =>
        have Hy := Lib.hid (show TokPost w s.data.toList (.returned (iv' 7)) _ from ⟨by rw [← Lib.toList_data, ← beq_iff_eq.1 hq]; rfl, Hk.out⟩)
        go_wp2_with fail
        go_ret
        exact Hy.out
      | false =>
        have Hy := Lib.hid (nots_step (k := 7) Hn.out (fun e => by rw [← Lib.toList_data] at e; rw [← e] at hq; revert hq; decide))
        go_wp2_with fail
        go_roundw
        case rel => exact ⟨8, by omega, by omega, by go_num, trivial, Hy.out⟩
        case measure => simp [intOf]
    · have Hy := Lib.hid (show TokPost w s.data.toList badE _ from ⟨by rw [nots_none Hn.out], Hk.out⟩)
      go_wp2_with fail
      exact ⟨rfl, Hy.out⟩

/-- A byte that may stand in a name, as the walk meets it. -/
theorem nameC_eq (c : UInt8) : Q.nameC c = ((decide (65 ≤ (c.toNat : Int)) && decide ((c.toNat : Int) ≤ 90)) || (decide (97 ≤ (c.toNat : Int)) && decide ((c.toNat : Int) ≤ 122)) || (decide (48 ≤ (c.toNat : Int)) && decide ((c.toNat : Int) ≤ 57)) || decide ((c.toNat : Int) = 43)) := by
  unfold Q.nameC
  rw [Bool.eq_iff_iff]
  simp only [Bool.or_eq_true, Bool.and_eq_true, decide_eq_true_eq, beq_iff_eq, UInt8.le_iff_toNat_le, ← UInt8.toNat_inj]
  simp
  omega
theorem all_nameC {s : ByteArray} (h : ∀ j (h : j < s.size), Q.nameC (s[j]) = true) : s.data.toList.all Q.nameC = true := by
  rw [List.all_eq_true]
  intro x hx
  obtain ⟨j, hj, rfl⟩ := List.getElem_of_mem hx
  have := h j (by simpa using hj)
  rw [Array.getElem_toList]; exact this
theorem not_all_nameC {s : ByteArray} {k : Nat} (hk : k < s.size) (h : Q.nameC (s[k]) = false) : s.data.toList.all Q.nameC = false := by
  rw [List.all_eq_false]
  exact ⟨s.data.toList[k]'(by simpa using hk), List.getElem_mem _, by rw [Array.getElem_toList, Bool.not_eq_true]; exact h⟩
set_option maxHeartbeats 4000000 in
theorem named_any (s : ByteArray) (w : World) (hs : s.size ≤ 9223372036854775806) : Calls Tryd.prog 60 #[.string s] w fun e w' => e = .returned (.bool (Q.isName s.data.toList)) ∧ w = w' := by
  go_enter Tryd.func60, Tryd.ntmps60
  go_wp2_with fail
  go_loopw [7] (fun i wr => ∃ k : Nat, k ≤ s.size ∧ i = .int .i64 (k : Nat) ∧ w = wr ∧ ∀ j (h : j < s.size), j < k → Q.nameC (s[j]) = true) (fun i _ => s.size - (intOf i).toNat)
  case atStart => exact ⟨0, by omega, rfl, rfl, fun j h h' => by omega⟩
  case round =>
    obtain ⟨k, hk, rfl, rfl, hall⟩ := hrel
    have Hall := Lib.hid hall
    clear hall
    by_cases hlt : k < s.size
    · have Hc := Lib.hid (nameC_eq (s[k]))
      go_upto_region 5 with fail
      go_cut [39] (fun v wc => v = .bool (!Q.nameC s[k]) ∧ w = wc)
      case first =>
        go_wp2_with fail
        all_goals
          go_meet
          case rel => exact ⟨by rw [Hc.out]; refine congrArg Value.bool ?_; rw [Bool.eq_iff_iff]; simp; omega, rfl⟩
      case rest =>
        obtain ⟨rfl, rfl⟩ := hcut
        cases hq : Q.nameC s[k] with
        | true =>
          have Hq := Lib.hid hq
          clear hq
          go_wp2_with fail
          go_roundw
          case rel => exact ⟨k + 1, by omega, by go_num, trivial, fun j h h' => by
            rcases Nat.lt_or_ge j k with q | q
            · exact Hall.out j h q
            · obtain rfl : j = k := by omega
              exact Hq.out⟩
          case measure => simp [intOf]; omega
        | false =>
          have Hq := Lib.hid (show Q.isName s.data.toList = false by unfold Q.isName; rw [not_all_nameC hlt hq]; rfl)
          clear hq
          go_wp2_with fail
          go_ret
          exact ⟨by rw [Hq.out]; rfl, rfl⟩
    · obtain rfl : k = s.size := by omega
      have Hq := Lib.hid (all_nameC (fun j h => Hall.out j h h))
      go_wp2_with fail
      go_ret
      exact ⟨by unfold Q.isName; rw [Hq.out, Bool.true_and, ← Lib.toList_data]; rfl, rfl⟩
end Go.Proofs.YtjbjgpcldcpjmaaDoor

namespace Go.Proofs.YtjbjgpcldcpjmaaDoor
open Go.RowKit

/-- A text of these bytes. -/
def bs (l : Q.Bt) : ByteArray := ⟨l.toArray⟩
theorem bs_list (l : Q.Bt) : (bs l).data.toList = l := rfl
theorem bs_data (s : ByteArray) : bs s.data.toList = s := Lib.mk_data s
theorem bs_size (l : Q.Bt) : (bs l).size = l.length := by rw [Lib.size_eq, bs_list]
/-- The variable of the library that says how long a text it looks for at once. -/
def MaxV (w : World) (m : Int) : Prop := w.cell? ⟨6, 0, none⟩ = some (.int .i64 m)
theorem Kp.maxV {w w' : World} (h : Kp w w') {m : Int} (hm : MaxV w m) : MaxV w' m := h.cell hm
/-- What the next row leaves: the reader holds the rest. -/
def RowPost (w : World) (b : Nat) (s : Q.Bt) (e : Ending) (w' : World) : Prop := match Lib.cut s [10] with
  | (x, rest, true) => e = .returned (.string (bs x)) ∧ Fr [b] w w' ∧ w'.cell? ⟨b, 0, none⟩ = some (.string (bs rest)) ∧ w'.frozen? ⟨b, 0, none⟩ = false
  | _ => e = badE ∧ Kp w w'
set_option maxHeartbeats 2000000 in
theorem rowR_any (b : Nat) (s : ByteArray) (m : Int) (w : World) (hs : s.size < 4294967281) (hm : MaxV w m) (hc : w.cell? ⟨b, 0, none⟩ = some (.string s)) (hf : w.frozen? ⟨b, 0, none⟩ = false) :
    Calls Tryd.prog 58 #[.pointer (some ⟨b, 0, none⟩)] w (RowPost w b s.data.toList) := by
  have HC := Lib.hid (Tryd.strings_Cut s ⟨#[10]⟩ m w hs hm)
  have Hl := Lib.hid (show (⟨#[10]⟩ : ByteArray).data.toList = [10] from rfl)
  rw [Hl.out] at HC
  obtain ⟨x, hx⟩ : ∃ x, x = Lib.cut s.data.toList [10] := ⟨_, rfl⟩
  unfold RowPost
  rw [← hx] at HC ⊢
  clear hm hx
  obtain ⟨x, rest, ok⟩ := x
  cases ok with
  | true =>
    go_enter Tryd.func58, Tryd.ntmps58
    go_wp2_with fail
    (with_reducible refine HC.out.mono ?_)
    rintro e w1 ⟨rfl, n, rfl⟩
    have hk := Kp.of_drewN w n
    have hc1 := hk.cell hc
    have hf1 := (Fr.of_kp hk).free hc hf (by simp)
    have hset := Fr.set (w.drewN n) ⟨b, 0, none⟩ (.string (bs rest))
    have hcz : ((w.drewN n).setCell ⟨b, 0, none⟩ (.string (bs rest))).cell? ⟨b, 0, none⟩ = some (.string (bs rest)) := World.cell?_setCell_same _ _ _ hc1
    have hfz : ((w.drewN n).setCell ⟨b, 0, none⟩ (.string (bs rest))).frozen? ⟨b, 0, none⟩ = false := by rw [World.frozen?_setCell]; exact hf1
    have Hy := Lib.hid (And.intro (((Fr.of_kp hk).mono (by simp)).trans hset) (And.intro hcz hfz))
    clear hset hk hfz hcz
    go_wp2_with fail
    (with_reducible refine (ask_true _).mono ?_)
    rintro e w2 ⟨rfl, rfl⟩
    go_wp2_with fail
    go_ret
    exact ⟨rfl, Hy.out⟩
  | false =>
    go_enter Tryd.func58, Tryd.ntmps58
    go_wp2_with fail
    (with_reducible refine HC.out.mono ?_)
    rintro e w1 ⟨rfl, n, rfl⟩
    have Hk := Lib.hid (Kp.of_drewN w n)
    go_wp2_with fail
    (with_reducible refine (ask_false _).mono ?_)
    rintro e w2 ⟨rfl, rfl⟩
    unfold badE
    go_wp2_with fail
    exact ⟨rfl, rfl, Hk.out⟩
end Go.Proofs.YtjbjgpcldcpjmaaDoor
